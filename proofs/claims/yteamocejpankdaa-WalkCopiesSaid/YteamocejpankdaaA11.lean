/- The document's example: a fixed fact. For every world. -/
import Derived.Test.YteamocejpankdaaA10
namespace Go.Proofs.Yteamocejpankdaa
open Go.Proofs.YteamocejpankdaaW.PrintLast Go.RowKit Go.Shelf Go.Proofs.YteamocejpankdaaW.PrintWords Go.Proofs.Yteamocejpankdaa.PWalkCopies
set_option linter.unusedVariables false
set_option linter.unusedSimpArgs false

def tS : ByteArray := ⟨#[33, 115, 58, 120]⟩
def tA : ByteArray := ⟨#[33, 97, 58, 120]⟩
def tB : ByteArray := ⟨#[33, 98, 58, 120]⟩
def kid (b : ByteArray) : S44 := ⟨b, ⟨#[]⟩, [], false, 0⟩
def awakeF (room : ByteArray) : Int × List S44 := if room = tS then (2, [kid tA, kid tB]) else if room = tA then (2, [kid tB]) else (2, [])
def KPost (W : World) (p : Int × List S44) (e : Ending) (W' : World) : Prop := ∃ A' c', e = .returned (.agg #[.int .i64 p.1, .slice A' p.2.length c']) ∧ p.2.length ≤ c' ∧ Kd.F k44 W' (fun k => W.heap.size ≤ k) A' p.2.length p.2 ∧ Below W.heap.size W W'

theorem kid_M (w : World) (base : Nat) (ok : Nat → Prop) (b : ByteArray) : k44.M w base ok (kid b) [.string b, .string ⟨#[]⟩, .slice none 0 0, .bool false, .int .i64 0] := k44_mkM w base ok (kid b) (Kd.R_nil _ _ _ _ _)
theorem kids2 {w : World} {base g : Nat} {ok : Nat → Prop} {a b : ByteArray} (hg : w.heap[g]? = some (.cells #[.string a, .string ⟨#[]⟩, .slice none 0 0, .bool false, .int .i64 0, .string b, .string ⟨#[]⟩, .slice none 0 0, .bool false, .int .i64 0] 66 (0, 0))) (hb : base ≤ g) (ho : ok g) :
    k44.R 66 w base ok (.slice (some ⟨g, 0, none⟩) 2 2) [kid a, kid b] :=
  ⟨fun k hk => by injection hk with hk; exact hk ▸ ho, [.string a, .string ⟨#[]⟩, .slice none 0 0, .bool false, .int .i64 0, .string b, .string ⟨#[]⟩, .slice none 0 0, .bool false, .int .i64 0], ⟨rfl, .inr ⟨g, 2, _, rfl, hb, hg, Nat.le_refl _, by decide, rfl, rfl⟩⟩,
    Reps.snoc (Reps.snoc (Reps.none _ _) (kid_M w base _ a) rfl) (kid_M w base _ b) rfl⟩
theorem kids1 {w : World} {base g : Nat} {ok : Nat → Prop} {a : ByteArray} (hg : w.heap[g]? = some (.cells #[.string a, .string ⟨#[]⟩, .slice none 0 0, .bool false, .int .i64 0] 66 (0, 0))) (hb : base ≤ g) (ho : ok g) :
    k44.R 66 w base ok (.slice (some ⟨g, 0, none⟩) 1 1) [kid a] :=
  ⟨fun k hk => by injection hk with hk; exact hk ▸ ho, [.string a, .string ⟨#[]⟩, .slice none 0 0, .bool false, .int .i64 0], ⟨rfl, .inr ⟨g, 1, _, rfl, hb, hg, Nat.le_refl _, by decide, rfl, rfl⟩⟩,
    Reps.snoc (Reps.none _ _) (kid_M w base _ a) rfl⟩

set_option maxRecDepth 100000 in
set_option maxHeartbeats 1000000 in
theorem awake1_calls (W : World) (room : ByteArray) (Av : Option Addr) (nv cv : Nat) : Calls Try.prog 17 #[.string room, .slice Av nv cv] W (KPost W (awakeF room)) := by
  have t1 : tS.toList = [33, 115, 58, 120] := by rw [ByteArray.toList_eq]; rfl
  have t2 : tA.toList = [33, 97, 58, 120] := by rw [ByteArray.toList_eq]; rfl
  by_cases h1 : room = tS
  · have e1 : (room.toList == [33, 115, 58, 120]) = true := by rw [h1, t1]; rfl
    have HQ : awakeF room = (2, [kid tA, kid tB]) := if_pos h1
    rw [HQ]
    clear HQ t1 t2 h1
    go_enter Try.func17, Try.ntmps17
    go_wp2_with fail
    have b0 : ((W.alloc (.cells #[.int .i64 2, .slice (some ⟨W.heap.size + 1, 0, none⟩) 2 2] 65)).alloc (.cells #[.string tA, .string ⟨#[]⟩, .slice none 0 0, .bool false, .int .i64 0, .string tB, .string ⟨#[]⟩, .slice none 0 0, .bool false, .int .i64 0] 66)).heap[W.heap.size]? = some (.cells #[.int .i64 2, .slice (some ⟨W.heap.size + 1, 0, none⟩) 2 2] 65 (0, 0)) :=
      (Below.heap_alloc _ _ _ (by simp)).trans (heap_alloc_new W _)
    have b1 := heap_alloc_new (W.alloc (.cells #[.int .i64 2, .slice (some ⟨W.heap.size + 1, 0, none⟩) 2 2] 65)) (.cells #[.string tA, .string ⟨#[]⟩, .slice none 0 0, .bool false, .int .i64 0, .string tB, .string ⟨#[]⟩, .slice none 0 0, .bool false, .int .i64 0] 66)
    rw [World.size_alloc] at b1
    have n0 := (blk_cell b0 0).trans rfl
    have n1 := (blk_cell b0 1).trans rfl
    refine bodyPost_ret (v := .agg #[.int .i64 2, .slice (some ⟨W.heap.size + 1, 0, none⟩) 2 2]) (by unfold tA tB at n0 n1; simp [results, Try.results17, go_sem, n0, n1]) rfl ?_
    exact ⟨_, 2, rfl, Nat.le_refl _, Kd.F_mono (Kd.R_F (kids2 (ok := fun k => W.heap.size ≤ k) b1 (Nat.le_refl _) (Nat.le_succ _))) (fun _ h => h), below_alloc (below_alloc (Below.refl _ _) _) _⟩
  · have e1 : (room.toList == [33, 115, 58, 120]) = false := by
      rw [beq_eq_false_iff_ne]; exact fun h => h1 (bytes_toList (h.trans t1.symm))
    by_cases h2 : room = tA
    · have e2 : (room.toList == [33, 97, 58, 120]) = true := by rw [h2, t2]; rfl
      have HQ : awakeF room = (2, [kid tB]) := (if_neg h1).trans (if_pos h2)
      rw [HQ]
      clear HQ t1 t2 h1 h2
      go_enter Try.func17, Try.ntmps17
      go_wp2_with fail
      have b0 : ((W.alloc (.cells #[.int .i64 2, .slice (some ⟨W.heap.size + 1, 0, none⟩) 1 1] 65)).alloc (.cells #[.string tB, .string ⟨#[]⟩, .slice none 0 0, .bool false, .int .i64 0] 66)).heap[W.heap.size]? = some (.cells #[.int .i64 2, .slice (some ⟨W.heap.size + 1, 0, none⟩) 1 1] 65 (0, 0)) :=
        (Below.heap_alloc _ _ _ (by simp)).trans (heap_alloc_new W _)
      have b1 := heap_alloc_new (W.alloc (.cells #[.int .i64 2, .slice (some ⟨W.heap.size + 1, 0, none⟩) 1 1] 65)) (.cells #[.string tB, .string ⟨#[]⟩, .slice none 0 0, .bool false, .int .i64 0] 66)
      rw [World.size_alloc] at b1
      have n0 := (blk_cell b0 0).trans rfl
      have n1 := (blk_cell b0 1).trans rfl
      refine bodyPost_ret (v := .agg #[.int .i64 2, .slice (some ⟨W.heap.size + 1, 0, none⟩) 1 1]) (by unfold tB at n0 n1; simp [results, Try.results17, go_sem, n0, n1]) rfl ?_
      exact ⟨_, 1, rfl, Nat.le_refl _, Kd.F_mono (Kd.R_F (kids1 (ok := fun k => W.heap.size ≤ k) b1 (Nat.le_refl _) (Nat.le_succ _))) (fun _ h => h), below_alloc (below_alloc (Below.refl _ _) _) _⟩
    · have e2 : (room.toList == [33, 97, 58, 120]) = false := by
        rw [beq_eq_false_iff_ne]; exact fun h => h2 (bytes_toList (h.trans t2.symm))
      have HQ : awakeF room = (2, []) := (if_neg h1).trans (if_neg h2)
      rw [HQ]
      clear HQ t1 t2 h1 h2
      go_enter Try.func17, Try.ntmps17
      go_wp2_with fail
      have b0 := heap_alloc_new W (.cells #[.int .i64 2, .slice none 0 0] 65)
      have n0 := (blk_cell b0 0).trans rfl
      have n1 := (blk_cell b0 1).trans rfl
      refine bodyPost_ret (v := .agg #[.int .i64 2, .slice none 0 0]) (by simp [results, Try.results17, go_sem, n0, n1]) rfl ?_
      exact ⟨_, 0, rfl, Nat.le_refl _, Kd.F_nil _ _ _, below_alloc (Below.refl _ _) _⟩
end Go.Proofs.Yteamocejpankdaa
