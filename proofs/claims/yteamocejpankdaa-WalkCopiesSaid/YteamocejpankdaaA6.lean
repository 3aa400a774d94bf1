/- The walk's Next, over whatever function that tells what rooms are: what it hands back, and what becomes of the walk. For every world. -/
import Derived.Test.YteamocejpankdaaA5
import Derived.Deep.LoopGhost
namespace Go.Proofs.Yteamocejpankdaa
open Go.Proofs.YteamocejpankdaaW.PrintLast Go.RowKit Go.Shelf Go.Proofs.YteamocejpankdaaW.PrintWords Go.Proofs.Yteamocejpankdaa.PWalkCopies
set_option linter.unusedVariables false
set_option linter.unusedSimpArgs false

/-- A function value that tells what a room is: its kind, its children, in new memory. -/
structure AskFn (g : Nat) (lb : Array Value) (F : ByteArray → Int × List S44) (w : World) : Prop where
  enters : ∀ args w, (callFunc g args).run Try.prog w = .ok (.enter g args) w
  tells : ∀ (room : ByteArray) (A : Option Addr) (c : Nat) (via : List ByteArray) (W : World), Kept w W (fun _ => False) → room.size ≤ maxLen → Kd.string.C W A via.length via →
    Calls Try.prog g (#[.string room, .slice A via.length c] ++ lb) W fun e W' => ∃ A' c', e = .returned (.agg #[.int .i64 (F room).1, .slice A' (F room).2.length c']) ∧ (F room).2.length ≤ c' ∧
      Kd.F k44 W' (fun k => W.heap.size ≤ k) A' (F room).2.length (F room).2 ∧ Below W.heap.size W W'

/-- The same, whatever becomes of the blocks of S between. -/
structure AskFnS (g : Nat) (lb : Array Value) (F : ByteArray → Int × List S44) (w : World) (S : Nat → Prop) : Prop where
  enters : ∀ args w, (callFunc g args).run Try.prog w = .ok (.enter g args) w
  tells : ∀ (room : ByteArray) (A : Option Addr) (c : Nat) (via : List ByteArray) (W : World), Kept w W S → room.size ≤ maxLen → Kd.string.C W A via.length via →
    Calls Try.prog g (#[.string room, .slice A via.length c] ++ lb) W fun e W' => ∃ A' c', e = .returned (.agg #[.int .i64 (F room).1, .slice A' (F room).2.length c']) ∧ (F room).2.length ≤ c' ∧
      Kd.F k44 W' (fun k => W.heap.size ≤ k) A' (F room).2.length (F room).2 ∧ Below W.heap.size W W'

/-- No room has too many children, no child too long a name or via. -/
def FOk (F : ByteArray → Int × List S44) : Prop := ∀ room, (F room).2.length ≤ 1000000 ∧ ∀ c ∈ (F room).2, c.f0.size ≤ maxLen ∧ c.f2.length ≤ 1000000
def SOk (s : S38) : Prop := s.f0.size ≤ maxLen ∧ 0 ≤ s.f1 ∧ s.f1 ≤ 1000000 ∧ s.f2.length ≤ 1000000

def cnt (L : List ByteArray) (k : ByteArray) : Nat := (L.filter fun x => decide (x = k)).length
def memB (L : List ByteArray) (k : ByteArray) : Bool := L.any fun x => decide (x = k)
theorem memB_iff {L : List ByteArray} {k : ByteArray} : memB L k = true ↔ k ∈ L := by
  unfold memB
  rw [List.any_eq_true]
  exact ⟨fun ⟨x, hx, e⟩ => (of_decide_eq_true e) ▸ hx, fun h => ⟨k, h, decide_eq_true rfl⟩⟩
def cameF (L : List ByteArray) : ByteArray → Int := fun k => (cnt L k : Int)
theorem cameF_pos {L : List ByteArray} {k : ByteArray} : 0 < cameF L k ↔ memB L k = true := by
  unfold cameF cnt
  rw [memB_iff]
  constructor
  · intro h
    have h : 0 < (L.filter fun x => decide (x = k)).length := by omega
    obtain ⟨x, hx⟩ := List.exists_mem_of_length_pos h
    obtain ⟨hx, e⟩ := List.mem_filter.1 hx
    exact (of_decide_eq_true e) ▸ hx
  · intro h
    have : 0 < (L.filter fun x => decide (x = k)).length := List.length_pos_of_mem (List.mem_filter.2 ⟨h, decide_eq_true rfl⟩)
    omega
theorem cameF_cons (L : List ByteArray) (k : ByteArray) : upd (cameF L) k (cameF L k + 1) = cameF (k :: L) := by
  funext x
  unfold upd cameF cnt
  rw [List.filter_cons]
  by_cases h : x = k
  · subst h; simp
  · rw [if_neg h, if_neg (by simpa using fun e : k = x => h e.symm)]
theorem cameF_le (L : List ByteArray) (k : ByteArray) : 0 ≤ cameF L k ∧ cameF L k ≤ L.length := by
  unfold cameF cnt
  have := List.length_filter_le (fun x => decide (x = k)) L
  omega

def nextM (F : ByteArray → Int × List S44) (dep : Int) (sug : Bool) : List S38 → List ByteArray → List S38 × List ByteArray × Option (S38 × Int)
  | [], L => ([], L, none)
  | s :: rest, L => if memB L s.f0 = true then nextM F dep sug rest L else if (F s.f0).1 = 0 then (s :: rest, L, some (s, 0))
      else if (F s.f0).1 = 2 then (belowM dep sug s.f1 (F s.f0).2 ++ rest, s.f0 :: L, some (s, 2)) else nextM F dep sug rest (s.f0 :: L)

theorem IsWalkO.kept {ok : Nat → Prop} {A A' : World} {B gw gm : Nat} {vs : Value} {dep : Int} {sug : Bool} {row : List S38} {n : Nat} {came : ByteArray → Int} (h : IsWalkO ok A B gw gm vs dep sug row n came) (hk : Kept A A' (fun _ => False)) :
    IsWalkO ok A' B gw gm vs dep sug row n came := ⟨h.base, (hk.2 gw (blk_lt h.obj) (fun hk => hk)).trans h.obj, h.map.step (hk.2 gm h.map.lt (fun hk => hk)), Kd.R_kept h.stack hk (fun _ _ hk => hk)⟩
theorem nextM_drop (F : ByteArray → Int × List S44) (dep : Int) (sug : Bool) (L : List ByteArray) : ∀ row, nextM F dep sug (dropM (cameF L) row) L = nextM F dep sug row L
  | [] => rfl
  | s :: rest => by
    unfold dropM
    by_cases h : 0 < cameF L s.f0
    · rw [if_pos h, nextM_drop F dep sug L rest]
      conv => rhs; unfold nextM
      rw [if_pos (cameF_pos.1 h)]
    · rw [if_neg h]
theorem dropM_head (L : List ByteArray) : ∀ row x rest, dropM (cameF L) row = x :: rest → ¬ memB L x.f0 = true
  | [], _, _, h => by cases h
  | s :: r, x, rest, h => by
    unfold dropM at h
    by_cases h0 : 0 < cameF L s.f0
    · rw [if_pos h0] at h; exact dropM_head L r x rest h
    · rw [if_neg h0] at h
      injection h with h1 h2
      subst h1
      exact fun hm => h0 (cameF_pos.2 hm)
theorem dropM_sub (f : ByteArray → Int) : ∀ row, ∀ x ∈ dropM f row, x ∈ row
  | [], x, h => h
  | s :: r, x, h => by
    unfold dropM at h
    split at h
    · exact List.mem_cons_of_mem _ (dropM_sub f r x h)
    · exact h
theorem dropM_len (f : ByteArray → Int) : ∀ row, (dropM f row).length ≤ row.length
  | [] => Nat.le_refl _
  | s :: r => by
    unfold dropM
    split
    · have := dropM_len f r; simp; omega
    · exact Nat.le_refl _

/-- The blocks that a walk's stack may lie in: elder than this world. -/
def okN (gw gm : Nat) (W : World) : Nat → Prop := fun k => okW gw gm k ∧ k < W.heap.size
def TW (gw gm : Nat) (vs : Value) : Nat → Prop := fun k => k = gw ∨ k = gm ∨ some k = vs.ownBlock

/-- What Next leaves, behind the world W. -/
def NextPost (B gw gm : Nat) (vs : Value) (dep : Int) (sug : Bool) (W : World) (q : List S38 × List ByteArray × Option (S38 × Int)) (e : Ending) (W' : World) : Prop :=
  ∃ vs', IsWalk W' B gw gm vs' dep sug q.1 q.2.1.length (cameF q.2.1) ∧ Kept W W' (TW gw gm vs) ∧ (vs'.ownBlock = vs.ownBlock ∨ ∃ b, vs'.ownBlock = some b ∧ W.heap.size ≤ b) ∧
    match q.2.2 with
    | some (s, k) => ∃ cs, e = .returned (.tuple #[.agg cs.toArray, .int .i64 k, .bool true]) ∧ k38.M W' W.heap.size (fun k => W.heap.size ≤ k ∧ some k ≠ vs'.ownBlock) s cs
    | none => e = .returned (.tuple #[.agg #[.string ⟨#[]⟩, .int .i64 0, .slice none 0 0], .int .i64 1, .bool false])

theorem R_off {α : Type} {d : Kd α} {e : Nat} {w : World} {base : Nat} {ok : Nat → Prop} {v : Value} {xs : List α} (h : d.R e w base ok v xs) {N t : Nat} {cells : Array Value} (hb : w.heap[N]? = some (.cells cells t (0, 0))) (ht : t ∉ d.E) (hne : some N ≠ v.ownBlock) :
    d.R e w base (fun k => ok k ∧ k ≠ N) v xs := ⟨fun k hk => ⟨h.1 k hk, by rintro rfl; exact hne hk.symm⟩, h.2.imp_ (fun _ _ hp => d.M_mono (fun k hk => ⟨⟨hk.1.1, by
      rintro rfl
      obtain ⟨_, _, _, q, hq, c', hc⟩ := hk
      rw [hb] at hc
      injection hc with hc
      injection hc with _ hc
      exact ht (hc ▸ hq)⟩, hk.1.2⟩) (d.M_bound hp))⟩
/-- A room's numbers, copied into the result's cells. -/
theorem ret_step {W w : World} {B gw gm : Nat} {vs vs' : Value} {dep : Int} {sug : Bool} {row' : List S38} {L' : List ByteArray} {N N1 : Nat} {A5 : Option Addr} {c5 : Nat} {x : S38} {kd : Int} {cells : Array Value} (hN : N = W.heap.size)
    (h : IsWalk w B gw gm vs' dep sug row' L'.length (cameF L')) (hgw : gw < N) (hgm : gm < N) (hn : w.heap[N]? = some (.cells cells 36 (0, 0))) (hne : some N ≠ vs'.ownBlock)
    (hk : Kept W w (TW gw gm vs)) (hv : vs'.ownBlock = vs.ownBlock ∨ ∃ b, vs'.ownBlock = some b ∧ W.heap.size ≤ b) (hR : Kd.string.R 9 w N1 (fun _ => True) (.slice A5 x.f2.length c5) x.f2) (hN1 : N < N1) :
    NextPost B gw gm vs dep sug W (row', L', some (x, kd)) (.returned (.tuple #[.agg #[.string x.f0, .int .i64 x.f1, .slice A5 x.f2.length c5], .int .i64 kd, .bool true]))
      (((w.setCell ⟨N, 0, none⟩ (.string x.f0)).setCell ⟨N, 1, none⟩ (.int .i64 x.f1)).setCell ⟨N, 2, none⟩ (.slice A5 x.f2.length c5)) := by
  subst hN
  have st := R_off h.stack hn (show (36 : Nat) ∉ k38.E by decide) hne
  have hfar : ∀ i v (X : World), IsWalkO (fun k => okW gw gm k ∧ k ≠ W.heap.size) X B gw gm vs' dep sug row' L'.length (cameF L') → IsWalkO (fun k => okW gw gm k ∧ k ≠ W.heap.size) (X.setCell ⟨W.heap.size, i, none⟩ v) B gw gm vs' dep sug row' L'.length (cameF L') :=
    fun i v X hX => hX.far (by show gw ≠ W.heap.size; omega) (by show gm ≠ W.heap.size; omega) (fun k hk => hk.2) v
  have h1 : IsWalkO (fun k => okW gw gm k ∧ k ≠ W.heap.size) w B gw gm vs' dep sug row' L'.length (cameF L') := ⟨⟨h.base.1, h.base.2.1, fun k hk => hk.1⟩, h.obj, h.map, st⟩
  refine ⟨vs', (hfar _ _ _ (hfar _ _ _ (hfar _ _ _ h1))).mono (fun k hk => hk.1) (fun k hk => hk), ?_, hv, _, rfl, ?_⟩
  · exact ((hk.setCell (.inr (Nat.le_refl _)) _).setCell (.inr (Nat.le_refl _)) _).setCell (.inr (Nat.le_refl _)) _
  · have hR1 : Kd.string.R 9 w W.heap.size (fun k => W.heap.size ≤ k ∧ some k ≠ vs'.ownBlock ∧ k ≠ W.heap.size) (.slice A5 x.f2.length c5) x.f2 := by
      refine Kd.R_lower (base := N1) (Kd.R_mono (Kd.R_bound hR) (fun k hk => ?_)) (by omega)
      obtain ⟨_, h1, h2, q, hq, c', hc⟩ := hk
      refine ⟨by omega, fun e => ?_, by omega⟩
      obtain ⟨c2, hc2⟩ := Kd.R_typed h.stack k e.symm
      rw [hc] at hc2
      injection hc2 with hc2
      injection hc2 with _ hc2
      subst hc2
      revert hq
      decide
    exact k38_mkM _ _ _ x (Kd.R_mono (Kd.R_far (Kd.R_far (Kd.R_far hR1 (fun k hk => hk.2.2) _) (fun k hk => hk.2.2) _) (fun k hk => hk.2.2) _) (fun k hk => ⟨hk.1, hk.2.1⟩))
theorem wf_i64 {v : Int} (h0 : 0 ≤ v) (h1 : v < 9223372036854775808) : (Lit.int .i64 v).wf = true := by
  simp only [Lit.wf, Bool.and_eq_true, decide_eq_true_eq]
  exact ⟨Int.le_trans (show IntKind.i64.min ≤ 0 by decide) h0, Int.le_trans (show v ≤ 9223372036854775807 by omega) (by decide)⟩
/-- A room has come: its map and its stack. -/
theorem IsWalkO.come {ok : Nat → Prop} {A A' : World} {B gw gm : Nat} {vs : Value} {dep : Int} {sug : Bool} {row : List S38} {n n' : Nat} {came came' : ByteArray → Int} (h : IsWalkO ok A B gw gm vs dep sug row n came) (hg : A.grownBy A' (some gm)) (hm : SMap A' gm n' came') :
    IsWalkO ok A' B gw gm vs dep sug row n' came' := ⟨h.base, (hg.block gw (blk_lt h.obj) (by intro e; injection e with e; exact h.ne e.symm)).trans h.obj, hm, Kd.R_grown h.stack hg (fun k hk e => by injection e with e; exact (h.base.2.2 k hk).2 e)⟩
theorem row_not_map {w w' : World} {N1 gm n : Nat} {f : ByteArray → Int} {v : Value} {xs : List ByteArray} (h : Kd.string.R 9 w N1 (fun _ => True) v xs) (hm : SMap w gm n f) (hk : Kept w w' (fun k => k = gm)) : Kd.string.R 9 w' N1 (fun _ => True) v xs := by
  refine Kd.R_mono (Kd.R_step (Kd.R_bound h) (fun k hk2 hlt => hk.2 k hlt ?_)) (fun _ _ => trivial)
  rintro rfl
  obtain ⟨_, _, _, q, _, c, hc⟩ := hk2
  obtain ⟨es, cl, hb⟩ := hm.blk
  rw [hc] at hb
  injection hb with hb
  cases hb
set_option maxRecDepth 100000 in
set_option maxHeartbeats 2000000 in
theorem next_callsS (W : World) (B gw gm : Nat) (vs : Value) (dep : Int) (sug : Bool) (row : List S38) (L : List ByteArray) (h : IsWalk W B gw gm vs dep sug row L.length (cameF L))
    (g : Nat) (lb : Array Value) (F : ByteArray → Int × List S44) (hA : AskFnS g lb F W (TW gw gm vs)) (hF : FOk F) (hrow : ∀ s ∈ row, SOk s) (hlen : row.length ≤ 900000000000) (hL : L.length + row.length ≤ 900000000000) :
    Calls Try.prog 15 #[.pointer (some ⟨gw, 0, none⟩), .func (.func g) #[] lb] W (NextPost B gw gm vs dep sug W (nextM F dep sug row L)) := by
  have eg := hA.enters
  have HA := Lib.hid hA; clear hA
  have hgw := blk_lt h.obj
  have hbase := h.base
  have hvB := Lib.hid (Kd.R_base h.stack)
  have hgm := h.map.lt
  have H := Lib.hid h; clear h
  have HF := Lib.hid hF; clear hF
  have HR := Lib.hid hrow; clear hrow
  go_enter Try.func15, Try.ntmps15
  go_wp2_with fail
  refine (drop_calls (okN gw gm W) _ B gw gm vs dep sug row L.length (cameF L) ((H.out.bound).below ((below_alloc (Below.refl _ _) _))) (fun x hx => (HR.out x hx).1) (by omega)).mono ?_
  rintro e W1 ⟨rfl, vs1, h1, hv1, hk1⟩
  have H1 := Lib.hid h1; clear h1
  have HV1 := Lib.hid hv1; clear hv1
  have HK1 := Lib.hid hk1; clear hk1
  go_wp2_with fail
  have hdl := dropM_len (cameF L) row
  go_loopg [] ((dropM (cameF L) row).length) (fun kq wr => ∃ rest L' vs', kq = rest.length ∧ IsWalkO (okN gw gm W) wr B gw gm vs' dep sug rest L'.length (cameF L') ∧ Kept W wr (TW gw gm vs) ∧ Hid (vs'.ownBlock = vs.ownBlock) ∧ Hid (nextM F dep sug row L = nextM F dep sug rest L') ∧
      Hid (∀ x r, rest = x :: r → ¬ memB L' x.f0 = true) ∧ Hid (∀ s ∈ rest, SOk s) ∧ rest.length ≤ row.length ∧ L'.length + rest.length ≤ L.length + row.length ∧ wr.heap[W.heap.size]? = some (.cells #[.string ⟨#[]⟩, .int .i64 0, .slice none 0 0] 36 (0, 0)))
  case atStart =>
    refine ⟨_, L, vs1, rfl, H1.out, ?_, HV1, Lib.hid (nextM_drop F dep sug L row).symm, Lib.hid (fun x r hx => dropM_head L row x r hx), Lib.hid (fun s hs => HR.out s (dropM_sub _ row s hs)), hdl, by omega, ?_⟩
    · refine ⟨by have := HK1.out.1; simp at this; omega, fun k hk hne => ?_, HK1.out.3⟩
      exact (HK1.out.2 k (by simp; omega) (fun e => hne (.inl e)) (by simp)).trans (Below.heap_alloc _ _ k hk)
    · exact (HK1.out.2 _ (by simp) (by omega) (by simp)).trans (heap_alloc_new W _)
  case round =>
    obtain ⟨rest, L', vs', rfl, h1, h2, HO, HN, HD, HS, hle, hle2, hbx⟩ := hrel
    have hgw1 := blk_lt h1.obj
    have hgm1 := h1.map.lt
    obtain ⟨d0, d1, d2, d3, d4⟩ := h1.cells
    have hbl := blk_lt hbx
    have q0 := (blk_cell hbx 0).trans rfl
    have q1 := (blk_cell hbx 1).trans rfl
    have q2 := (blk_cell hbx 2).trans rfl
    have qf : ∀ i, wr.frozen? ⟨W.heap.size, i, none⟩ = false := fun i => by simp [World.frozen?, hbx]
    cases rest with
    | nil =>
      obtain ⟨A0, c0, hvs⟩ := Kd.R_slice h1.stack
      subst hvs
      have H2 := Lib.hid h2; clear h2
      have HX := Lib.hid h1; clear h1
      have HBX := Lib.hid hbx; clear hbx
      simp only [List.length_reverse, List.length_nil] at *
      go_wp2_with fail
      refine bodyPost_ret (v := .tuple #[.agg #[.string ⟨#[]⟩, .int .i64 0, .slice none 0 0], .int .i64 1, .bool false]) (by simp [results, Try.results15, go_sem, q0, q1, q2, hbl]) rfl ?_
      unfold NextPost
      rw [HN.out]
      have hfar : ∀ i v (X : World), IsWalkO (okN gw gm W) X B gw gm (.slice A0 0 c0) dep sug [] L'.length (cameF L') → IsWalkO (okN gw gm W) (X.setCell ⟨W.heap.size, i, none⟩ v) B gw gm (.slice A0 0 c0) dep sug [] L'.length (cameF L') :=
        fun i v X hX => hX.far (by show gw ≠ W.heap.size; omega) (by show gm ≠ W.heap.size; omega) (fun k hk => by have := hk.2; show k ≠ W.heap.size; omega) v
      refine ⟨_, (hfar _ _ _ (hfar _ _ _ (hfar _ _ _ HX.out))).mono (fun k hk => hk.1) (fun k hk => hk), ?_, .inl HO.out, rfl⟩
      refine ⟨by have := H2.out.1; simp; omega, fun k hk hne => ?_, H2.out.3⟩
      rw [Below.heap_setCell _ _ _ k (by show k ≠ W.heap.size; omega), Below.heap_setCell _ _ _ k (by show k ≠ W.heap.size; omega), Below.heap_setCell _ _ _ k (by show k ≠ W.heap.size; omega)]
      exact H2.out.2 k hk hne
    | cons x rest =>
      obtain ⟨g1, cap, A, c, hvs, q3, q4, q5, q6, q7, q8, q9, q10, q11, q12⟩ := h1.last
      subst hvs
      have HC := Lib.hid q12; clear q12
      have H2 := Lib.hid h2; clear h2
      have HX := Lib.hid h1; clear h1
      have HBX := Lib.hid hbx; clear hbx
      simp only [List.length_cons] at *
      go_wp2_with fail
      refine (clone_str A c x.f2 _ (Kd.C_alloc HC.out _) (by have := (HS.out x (by simp)).2.2.2; omega)).mono ?_
      rintro e w5 ⟨v5, rfl, hR5, hB5⟩
      obtain ⟨A5, c5, rfl⟩ := Kd.R_slice hR5
      have b5 : w5.heap[wr.heap.size]? = some (.cells #[.string x.f0, .int .i64 x.f1, .slice A x.f2.length c] 36 (0, 0)) := (hB5.block _ (by simp)).trans (heap_alloc_new wr _)
      have hlt5 := blk_lt b5
      have hsz5 := hB5.size
      rw [World.size_alloc] at hsz5
      have u2 := (blk_cell b5 2).trans rfl
      have uf : w5.frozen? ⟨wr.heap.size, 2, none⟩ = false := by simp [World.frozen?, b5]
      have HXS := Lib.hid (HS.out x (by simp))
      have b6 : (w5.setCell ⟨wr.heap.size, 2, none⟩ (.slice A5 x.f2.length c5)).heap[wr.heap.size]? = some (.cells #[.string x.f0, .int .i64 x.f1, .slice A5 x.f2.length c5] 36 (0, 0)) := by simpa using blk_set b5 2 (.slice A5 x.f2.length c5)
      have i6 : IsWalkO (okN gw gm W) (w5.setCell ⟨wr.heap.size, 2, none⟩ (.slice A5 x.f2.length c5)) B gw gm (.slice (some ⟨g1, 0, none⟩) (rest.length + 1) cap) dep sug (x :: rest) L'.length (cameF L') :=
        (HX.out.below (below_alloc (Below.refl _ _) _ |>.trans (hB5.mono (by simp)))).far (by show gw ≠ wr.heap.size; omega) (by show gm ≠ wr.heap.size; omega) (fun k hk => by have := hk.2; have := H2.out.1; show k ≠ wr.heap.size; omega) _
      have k6 : Kept wr (w5.setCell ⟨wr.heap.size, 2, none⟩ (.slice A5 x.f2.length c5)) (fun _ => False) := ((Kept.refl wr _).alloc _).below hB5 |>.setCell (.inr (Nat.le_refl _)) _
      have r6 : Kd.string.R 9 (w5.setCell ⟨wr.heap.size, 2, none⟩ (.slice A5 x.f2.length c5)) (wr.heap.size + 1) (fun _ => True) (.slice A5 x.f2.length c5) x.f2 := by
        have := Kd.R_set hR5 b5 (by decide) 2 (.slice A5 x.f2.length c5)
        rw [World.size_alloc] at this
        exact Kd.R_mono this (fun _ _ => trivial)
      have hlen6 : wr.heap.size + 1 ≤ (w5.setCell ⟨wr.heap.size, 2, none⟩ (.slice A5 x.f2.length c5)).heap.size := by simpa using hsz5
      go_wp2_with fail
      clear hlt5 hsz5 u2 uf b5
      have HB5 := Lib.hid hB5; clear hB5
      have HR5 := Lib.hid hR5; clear hR5
      generalize (w5.setCell ⟨wr.heap.size, 2, none⟩ (.slice A5 x.f2.length c5)) = w6 at *
      have a0 := (blk_cell b6 0).trans rfl
      have a1 := (blk_cell b6 1).trans rfl
      have a2 := (blk_cell b6 2).trans rfl
      have hlt6 := blk_lt b6
      have kw : Kept W w6 (TW gw gm vs) := H2.out.then_ k6 (fun _ hk => hk.elim)
      have I6 := Lib.hid i6; clear i6
      have K6 := Lib.hid k6; clear k6
      have R6 := Lib.hid r6; clear r6
      have B6 := Lib.hid b6; clear b6
      have KW := Lib.hid kw; clear kw
      have SB : ∀ X : World, Below w6.heap.size w6 X → X.cell? ⟨wr.heap.size, 0, none⟩ = some (.string x.f0) ∧ X.cell? ⟨wr.heap.size, 2, none⟩ = some (.slice A5 x.f2.length c5) := fun X hX => ⟨(hX.cell (p := ⟨wr.heap.size, 0, none⟩) hlt6).trans a0, (hX.cell (p := ⟨wr.heap.size, 2, none⟩) hlt6).trans a2⟩
      have CB : ∀ X : World, Below w6.heap.size w6 X → Kd.string.C X A5 x.f2.length x.f2 := fun X hX => Kd.C_below (Kd.R_reads' R6.out).2.2 hX
      have SB := Lib.hid SB
      have CB := Lib.hid CB
      refine start_ (S := fun w' : World => w'.cell? ⟨wr.heap.size, 0, none⟩ = some (.string x.f0) ∧ w'.cell? ⟨wr.heap.size, 2, none⟩ = some (.slice A5 x.f2.length c5)) (ds := [8]) #[false, false, false, false, false, false, false, false, false] rfl rfl rfl ⟨a0, a2⟩ (fun hHeld => ?_)
      refine take_ (i := 0) (oi := { dst := some 37, op := Go.Op.move (Go.Operand.tmp 1), type := 29, pos := "walk.go:80", after := #[], guard := none }) (v := ?v0_) #[true, false, false, false, false, false, false, false, false] rfl rfl (by kernel_rfl) (fun _ _ _ h => h) (Or.inl ⟨by rfl, ?hy0_⟩) (by assumption) rfl ?rest0_
      case hy0_ => (intro w hSw; (try dsimp only at hSw); go_simp; (first | done | with_reducible rfl))
      (try simp only [Act.put, List.setIfInBounds_toArray, List.set_cons_zero, List.set_cons_succ])
      refine take_ (i := 1) (oi := { dst := some 38, op := Go.Op.fieldAddr 36 (Go.Operand.tmp 8) 0, type := 0, pos := "walk.go:80", after := #[], guard := none }) (v := ?v1_) #[true, true, false, false, false, false, false, false, false] rfl rfl (by kernel_rfl) (fun _ _ _ h => h) (Or.inl ⟨by rfl, ?hy1_⟩) (by assumption) rfl ?rest1_
      case hy1_ => (intro w hSw; (try dsimp only at hSw); go_simp; (first | done | with_reducible rfl))
      (try simp only [Act.put, List.setIfInBounds_toArray, List.set_cons_zero, List.set_cons_succ])
      refine take_ (i := 2) (oi := { dst := some 39, op := Go.Op.load 9 (Go.Operand.tmp 38), type := 9, pos := "walk.go:80", after := #[{ on := 1, ground := Go.Ground.data }], guard := none }) (v := ?v2_) #[true, true, true, false, false, false, false, false, false] rfl rfl (by kernel_rfl) (fun _ _ _ h => h) (Or.inl ⟨by rfl, ?hy2_⟩) (by assumption) rfl ?rest2_
      case hy2_ => (intro w hSw; (try dsimp only at hSw); go_simp; (first | done | with_reducible rfl))
      (try simp only [Act.put, List.setIfInBounds_toArray, List.set_cons_zero, List.set_cons_succ])
      refine take_ (i := 3) (oi := { dst := some 40, op := Go.Op.fieldAddr 36 (Go.Operand.tmp 8) 2, type := 0, pos := "walk.go:80", after := #[], guard := none }) (v := ?v3_) #[true, true, true, true, false, false, false, false, false] rfl rfl (by kernel_rfl) (fun _ _ _ h => h) (Or.inl ⟨by rfl, ?hy3_⟩) (by assumption) rfl ?rest3_
      case hy3_ => (intro w hSw; (try dsimp only at hSw); go_simp; (first | done | with_reducible rfl))
      (try simp only [Act.put, List.setIfInBounds_toArray, List.set_cons_zero, List.set_cons_succ])
      refine take_ (i := 4) (oi := { dst := some 41, op := Go.Op.load 34 (Go.Operand.tmp 40), type := 34, pos := "walk.go:80", after := #[{ on := 3, ground := Go.Ground.data }], guard := none }) (v := ?v4_) #[true, true, true, true, true, false, false, false, false] rfl rfl (by kernel_rfl) (fun _ _ _ h => h) (Or.inl ⟨by rfl, ?hy4_⟩) (by assumption) rfl ?rest4_
      case hy4_ => (intro w hSw; (try dsimp only at hSw); go_simp; (first | done | with_reducible rfl))
      (try simp only [Act.put, List.setIfInBounds_toArray, List.set_cons_zero, List.set_cons_succ])
      refine join_ 1 #[true, true, true, true, true, true, true, true, false] (fun s : Nat × Value × Option Addr × Nat => [(9, .pointer (some ⟨s.1, 0, none⟩)), (42, s.2.1), (43, .agg #[.int .i64 (F x.f0).1, .slice s.2.2.1 (F x.f0).2.length s.2.2.2])])
        (fun s w' => Below w6.heap.size w6 w' ∧ w6.heap.size ≤ s.1 ∧ w'.heap[s.1]? = some (.cells #[.int .i64 0, .slice none 0 0] 65 (0, 0)) ∧ Kd.F k44 w' (fun k => w6.heap.size ≤ k ∧ k ≠ s.1) s.2.2.1 (F x.f0).2.length (F x.f0).2 ∧ (F x.f0).2.length ≤ s.2.2.2) ?cont ?walk
      case walk =>
        intro hcont
        have hb6 : Below w6.heap.size w6 w6.drew := below_drew (Below.refl _ _)
        refine two_ (i := 5) (j := 7) (oi := { dst := some 42, op := Go.Op.call { callee := Go.Callee.value (Go.Operand.func 28), args := #[Go.Operand.tmp 41], argTypes := #[34] }, type := 34, pos := "walk.go:80", after := #[{ on := 4, ground := Go.Ground.data }], guard := none }) (oj := { dst := some 9, op := Go.Op.alloc 65, type := 0, pos := "walk.go:80", after := #[], guard := none }) #[true, true, true, true, true, true, false, false, false] #[true, true, true, true, true, false, false, true, false] rfl rfl rfl rfl (by kernel_rfl) (by decide) (by decide) (fun K hK => ?_) (fun K hK => ?_)
        · go_simp
          refine (clone_str A5 c5 x.f2 _ (CB.out _ hb6) (by have := HXS.out.2.2.2; omega)).mono ?_
          rintro e w7 ⟨v7, rfl, hR7, hB7⟩
          obtain ⟨A7, c7, rfl⟩ := Kd.R_slice hR7
          have hb7 : Below w6.heap.size w6 w7 := (hb6).trans (hB7.mono (hb6).size)
          have CV := Lib.hid (Kd.R_reads' hR7).2.2
          clear hR7 hB7
          refine hK.out _ _ (SB.out _ hb7) (fun hHeld2 => ?_)
          clear hK K
          (try simp only [Act.put, List.setIfInBounds_toArray, List.set_cons_zero, List.set_cons_succ])
          refine two_ (i := 6) (j := 7) (oi := { dst := some 43, op := Go.Op.call { callee := Go.Callee.value (Go.Operand.tmp 37), args := #[Go.Operand.tmp 39, Go.Operand.tmp 42], argTypes := #[9, 34] }, type := 65, pos := "walk.go:80", after := #[{ on := 0, ground := Go.Ground.data }, { on := 2, ground := Go.Ground.data }, { on := 5, ground := Go.Ground.data }, { on := 5, ground := Go.Ground.chain }], guard := none }) (oj := { dst := some 9, op := Go.Op.alloc 65, type := 0, pos := "walk.go:80", after := #[], guard := none }) #[true, true, true, true, true, true, true, false, false] #[true, true, true, true, true, true, false, true, false] rfl rfl rfl rfl (by kernel_rfl) (by decide) (by decide) (fun K hK => ?_) (fun K hK => ?_)
          · go_simp
            refine (HA.out.tells x.f0 A7 c7 x.f2 _ (KW.out.below hb7) HXS.out.1 (CV.out)).mono ?_
            rintro e w8 ⟨A8, c8, rfl, hc8, hF8, hB8⟩
            have hb8 : Below w6.heap.size w6 w8 := (hb7).trans (hB8.mono (hb7).size)
            refine hK.out _ _ (SB.out _ hb8) (fun hHeld3 => ?_)
            clear hK K
            (try simp only [Act.put, List.setIfInBounds_toArray, List.set_cons_zero, List.set_cons_succ])
            refine one_ (i := 7) (oi := { dst := some 9, op := Go.Op.alloc 65, type := 0, pos := "walk.go:80", after := #[], guard := none }) #[true, true, true, true, true, true, true, true, false] rfl rfl (by kernel_rfl) (by decide) (fun K hK => ?_)
            go_simp
            have hb9 := below_alloc (hb8) (.cells #[.int .i64 0, .slice none 0 0] 65)
            refine hK.out _ _ (SB.out _ hb9) (fun hHeld4 => ?_)
            clear hK K
            (try simp only [Act.put, List.setIfInBounds_toArray, List.set_cons_zero, List.set_cons_succ])
            have hc := hcont (w8.heap.size, .slice A7 x.f2.length c7, A8, c8) _ ⟨hb9, hb8.size, heap_alloc_new _ _, Kd.F_mono (Kd.F_alloc (Kd.F_bound hF8) _) (fun k hk => ⟨Nat.le_trans hb7.size hk.1, Nat.ne_of_lt hk.2⟩), hc8⟩
            simp only [putAll, Act.put, List.setIfInBounds_toArray, List.set_cons_zero, List.set_cons_succ] at hc
            exact hc
          · go_simp
            have hb8 := below_alloc (hb7) (.cells #[.int .i64 0, .slice none 0 0] 65)
            refine hK.out _ _ (SB.out _ hb8) (fun hHeld4 => ?_)
            clear hK K
            (try simp only [Act.put, List.setIfInBounds_toArray, List.set_cons_zero, List.set_cons_succ])
            refine one_ (i := 6) (oi := { dst := some 43, op := Go.Op.call { callee := Go.Callee.value (Go.Operand.tmp 37), args := #[Go.Operand.tmp 39, Go.Operand.tmp 42], argTypes := #[9, 34] }, type := 65, pos := "walk.go:80", after := #[{ on := 0, ground := Go.Ground.data }, { on := 2, ground := Go.Ground.data }, { on := 5, ground := Go.Ground.data }, { on := 5, ground := Go.Ground.chain }], guard := none }) #[true, true, true, true, true, true, true, true, false] rfl rfl (by kernel_rfl) (by decide) (fun K hK => ?_)
            go_simp
            refine (HA.out.tells x.f0 A7 c7 x.f2 _ (KW.out.below hb8) HXS.out.1 (Kd.C_alloc CV.out _)).mono ?_
            rintro e w8 ⟨A8, c8, rfl, hc8, hF8, hB8⟩
            have hb9 : Below w6.heap.size w6 w8 := (hb8).trans (hB8.mono (hb8).size)
            refine hK.out _ _ (SB.out _ hb9) (fun hHeld3 => ?_)
            clear hK K
            (try simp only [Act.put, List.setIfInBounds_toArray, List.set_cons_zero, List.set_cons_succ])
            have hc := hcont (w7.heap.size, .slice A7 x.f2.length c7, A8, c8) _ ⟨hb9, hb7.size, (hB8.block _ (by simp)).trans (heap_alloc_new _ _), Kd.F_mono hF8 (fun k hk => ⟨Nat.le_trans hb8.size hk, by rw [World.size_alloc] at hk; exact Nat.ne_of_gt hk⟩), hc8⟩
            simp only [putAll, Act.put, List.setIfInBounds_toArray, List.set_cons_zero, List.set_cons_succ] at hc
            exact hc
        · go_simp
          have hb7 := below_alloc (hb6) (.cells #[.int .i64 0, .slice none 0 0] 65)
          refine hK.out _ _ (SB.out _ hb7) (fun hHeld4 => ?_)
          clear hK K
          (try simp only [Act.put, List.setIfInBounds_toArray, List.set_cons_zero, List.set_cons_succ])
          refine one_ (i := 5) (oi := { dst := some 42, op := Go.Op.call { callee := Go.Callee.value (Go.Operand.func 28), args := #[Go.Operand.tmp 41], argTypes := #[34] }, type := 34, pos := "walk.go:80", after := #[{ on := 4, ground := Go.Ground.data }], guard := none }) #[true, true, true, true, true, true, false, true, false] rfl rfl (by kernel_rfl) (by decide) (fun K hK => ?_)
          go_simp
          refine (clone_str A5 c5 x.f2 _ (CB.out _ hb7) (by have := HXS.out.2.2.2; omega)).mono ?_
          rintro e w7 ⟨v7, rfl, hR7, hB7⟩
          obtain ⟨A7, c7, rfl⟩ := Kd.R_slice hR7
          have hb8 : Below w6.heap.size w6 w7 := (hb7).trans (hB7.mono (hb7).size)
          have CV := Lib.hid (Kd.R_reads' hR7).2.2
          have hb8a := hB7.size
          have hb8b := hB7.block
          clear hR7 hB7
          refine hK.out _ _ (SB.out _ hb8) (fun hHeld2 => ?_)
          clear hK K
          (try simp only [Act.put, List.setIfInBounds_toArray, List.set_cons_zero, List.set_cons_succ])
          refine one_ (i := 6) (oi := { dst := some 43, op := Go.Op.call { callee := Go.Callee.value (Go.Operand.tmp 37), args := #[Go.Operand.tmp 39, Go.Operand.tmp 42], argTypes := #[9, 34] }, type := 65, pos := "walk.go:80", after := #[{ on := 0, ground := Go.Ground.data }, { on := 2, ground := Go.Ground.data }, { on := 5, ground := Go.Ground.data }, { on := 5, ground := Go.Ground.chain }], guard := none }) #[true, true, true, true, true, true, true, true, false] rfl rfl (by kernel_rfl) (by decide) (fun K hK => ?_)
          go_simp
          refine (HA.out.tells x.f0 A7 c7 x.f2 _ (KW.out.below hb8) HXS.out.1 (CV.out)).mono ?_
          rintro e w8 ⟨A8, c8, rfl, hc8, hF8, hB8⟩
          have hb9 : Below w6.heap.size w6 w8 := (hb8).trans (hB8.mono (hb8).size)
          refine hK.out _ _ (SB.out _ hb9) (fun hHeld3 => ?_)
          clear hK K
          (try simp only [Act.put, List.setIfInBounds_toArray, List.set_cons_zero, List.set_cons_succ])
          have hc := hcont (w6.drew.heap.size, .slice A7 x.f2.length c7, A8, c8) _ ⟨hb9, Nat.le_refl _, (hB8.block _ (Nat.lt_of_lt_of_le (by simp) hb8a)).trans ((hb8b _ (by simp)).trans (heap_alloc_new _ _)), Kd.F_mono hF8 (fun k hk => ⟨Nat.le_trans hb8.size hk, Nat.ne_of_gt (Nat.lt_of_lt_of_le (by simp) (Nat.le_trans hb8a hk))⟩), hc8⟩
          simp only [putAll, Act.put, List.setIfInBounds_toArray, List.set_cons_zero, List.set_cons_succ] at hc
          exact hc
      case cont =>
        rintro ⟨bx, v42, A8, c8⟩ w8 ⟨hb8, hbx8, b8, hF8, hc8⟩
        dsimp only at hbx8 b8 hF8 hc8
        simp only [putAll, Act.put, List.setIfInBounds_toArray, List.set_cons_zero, List.set_cons_succ]
        have SB8 := SB.out _ hb8
        have n0 := (blk_cell b8 0).trans rfl
        have n1 := (blk_cell b8 1).trans rfl
        have hbl8 := blk_lt b8
        have nf : ∀ i, w8.frozen? ⟨bx, i, none⟩ = false := fun i => by simp [World.frozen?, b8]
        have HF8 := Lib.hid hF8; clear hF8
        have B8 := Lib.hid b8; clear b8
        refine last_ (i := 8) (oi := { dst := none, op := Go.Op.store 65 (Go.Operand.tmp 9) (Go.Operand.tmp 43), type := 0, pos := "walk.go:80", after := #[{ on := 7, ground := Go.Ground.data }, { on := 6, ground := Go.Ground.data }, { on := 6, ground := Go.Ground.chain }, { on := 0, ground := Go.Ground.phase }, { on := 1, ground := Go.Ground.phase }, { on := 2, ground := Go.Ground.phase }, { on := 3, ground := Go.Ground.phase }, { on := 4, ground := Go.Ground.phase }, { on := 5, ground := Go.Ground.phase }, { on := 6, ground := Go.Ground.phase }, { on := 7, ground := Go.Ground.phase }], guard := none }) #[true, true, true, true, true, true, true, true, true] rfl rfl (by kernel_rfl) (by decide) (fun K hK => ?_)
        go_simp
        refine hK.out _ _ ?_
        clear hK K
        refine done_ (by kernel_rfl) ?_
        have b9 : ((w8.setCell ⟨bx, 0, none⟩ (.int .i64 (F x.f0).1)).setCell ⟨bx, 1, none⟩ (.slice A8 (F x.f0).2.length c8)).heap[bx]? = some (.cells #[.int .i64 (F x.f0).1, .slice A8 (F x.f0).2.length c8] 65 (0, 0)) := by
          have h1 := blk_set B8.out 0 (.int .i64 (F x.f0).1)
          have h2 := blk_set h1 1 (.slice A8 (F x.f0).2.length c8)
          simpa using h2
        have k9 : Kept w6 ((w8.setCell ⟨bx, 0, none⟩ (.int .i64 (F x.f0).1)).setCell ⟨bx, 1, none⟩ (.slice A8 (F x.f0).2.length c8)) (fun _ => False) := (((Kept.refl w6 _).below hb8).setCell (.inr hbx8) _).setCell (.inr hbx8) _
        have f9 : Kd.F k44 ((w8.setCell ⟨bx, 0, none⟩ (.int .i64 (F x.f0).1)).setCell ⟨bx, 1, none⟩ (.slice A8 (F x.f0).2.length c8)) (fun k => w6.heap.size ≤ k ∧ k ≠ bx) A8 (F x.f0).2.length (F x.f0).2 := Kd.F_far (Kd.F_far HF8.out (fun k hk => hk.2) _) (fun k hk => hk.2) _
        clear n0 n1 nf hHeld SB CB
        generalize ((w8.setCell ⟨bx, 0, none⟩ (.int .i64 (F x.f0).1)).setCell ⟨bx, 1, none⟩ (.slice A8 (F x.f0).2.length c8)) = w9 at *
        have i9 : IsWalkO (okN gw gm W) w9 B gw gm (.slice (some ⟨g1, 0, none⟩) (rest.length + 1) cap) dep sug (x :: rest) L'.length (cameF L') := I6.out.kept k9
        have k9w : Kept W w9 (TW gw gm vs) := (H2.out.then_ K6.out (fun _ hk => hk.elim)).then_ k9 (fun _ hk => hk.elim)
        have r9 := Kd.R_kept R6.out k9 (fun _ _ hk => hk)
        have x9 : w9.heap[wr.heap.size]? = _ := (k9.2 _ hlt6 (fun hk => hk)).trans B6.out
        have y9 : w9.heap[W.heap.size]? = _ := (k9.2 _ (Nat.lt_of_lt_of_le hbl K6.out.1) (fun hk => hk)).trans ((K6.out.2 _ hbl (fun hk => hk)).trans HBX.out)
        have a10 := (blk_cell x9 0).trans rfl
        have a11 := (blk_cell x9 1).trans rfl
        have a12 := (blk_cell x9 2).trans rfl
        have af1 : ∀ i, w9.frozen? ⟨W.heap.size, i, none⟩ = false := fun i => by simp [World.frozen?, y9]
        have n0 := (blk_cell b9 0).trans rfl
        have n1 := (blk_cell b9 1).trans rfl
        obtain ⟨d10, d11, d12, d13, d14⟩ := i9.cells
        have hN9 : wr.heap.size + 1 ≤ w6.heap.size := hlt6
        have hN0 := H2.out.1
        have hNb : W.heap.size < wr.heap.size := hbl
        have hN : nextM F dep sug row L = if (F x.f0).1 = 0 then (x :: rest, L', some (x, 0)) else if (F x.f0).1 = 2 then (belowM dep sug x.f1 (F x.f0).2 ++ rest, x.f0 :: L', some (x, 2)) else nextM F dep sug rest (x.f0 :: L') := by
          rw [HN.out]
          conv => lhs; unfold nextM
          rw [if_neg (HD.out x rest rfl)]
        have HN2 := Lib.hid hN; clear hN
        have I9 := Lib.hid i9; clear i9
        have K9 := Lib.hid k9w; clear k9w
        have R9 := Lib.hid r9; clear r9
        have X9 := Lib.hid x9; clear x9
        have Y9 := Lib.hid y9; clear y9
        have B9 := Lib.hid b9; clear b9
        have HF9 := Lib.hid f9; clear f9
        have KK9 := Lib.hid k9; clear k9
        clear a0 a1 a2 d0 d1 d2 d3 d4 q0 q1 q2 qf q3 q4 q5 q6
        have hwr : IntKind.i64.wrap (cameF L' x.f0 + 1) = cameF L' x.f0 + 1 := IntWalk.i64_in _ (by have := cameF_le L' x.f0; omega)
        have hg1 : g1 < W.heap.size := by have := (I9.out.stack).1 g1 rfl; exact this.2
        have hcap : rest.length ≤ cap := Nat.le_of_succ_le (Kd.R_reads' I9.out.stack).2.1
        by_cases hk0 : (F x.f0).1 = 0
        · have e0 := (blk_cell Y9.out 0).trans rfl
          have e1 := (blk_cell Y9.out 1).trans rfl
          have e2 := (blk_cell Y9.out 2).trans rfl
          go_wp2_with fail
          refine bodyPost_ret (v := .tuple #[.agg #[.string x.f0, .int .i64 x.f1, .slice A5 x.f2.length c5], .int .i64 0, .bool true]) (by simp [results, Try.results15, go_sem, e0, e1, e2]) rfl ?_
          rw [HN2.out, if_pos hk0]
          exact ret_step rfl (I9.out.mono (fun k hk => hk.1) (fun k hk => hk)) hgw hgm Y9.out (by simp [Value.ownBlock]; omega) K9.out (.inl HO.out) R9.out (Nat.lt_succ_of_lt hNb)
        · obtain ⟨w10, hput, hM10, hg10⟩ := (I9.out.drewN 1).map.put x.f0 HXS.out.1 (cameF L' x.f0 + 1) (wf_i64 (by have := cameF_le L' x.f0; omega) (by have := cameF_le L' x.f0; omega)) (by have : maxLen = 9223372036854775807 := rfl; omega)
          change (Instr.mapUpdate 33 (.map (some gm)) (.string x.f0) (.int .i64 (cameF L' x.f0 + 1))).run Try.prog w9.drew = _ at hput
          change w9.drew.grownBy w10 (some gm) at hg10
          rw [cameF_cons] at hM10
          have HM10 := Lib.hid hM10; clear hM10
          have HG10 := Lib.hid hg10; clear hg10
          have HKD := Lib.hid hk0
          go_wp2_with fail
          refine start_ (S := (fun w' : World => w'.cell? ⟨gw, 3, none⟩ = some (.map (some gm)) ∧ w'.cell? ⟨wr.heap.size, 0, none⟩ = some (.string x.f0) ∧ SMap w' gm L'.length (cameF L'))) (ds := [8]) #[false, false, false, false, false, false, false, false, false] rfl rfl rfl ⟨d13, a10, I9.out.map⟩ (fun hHeldq => ?_)
          refine take_ (i := 0) (oi := { dst := some 48, op := Go.Op.move (Go.Operand.tmp 0), type := 52, pos := "walk.go:84", after := #[], guard := none }) (v := ?v0_q) #[true, false, false, false, false, false, false, false, false] rfl rfl (by kernel_rfl) (fun _ _ _ h => h) (Or.inl ⟨by rfl, ?hy0_q⟩) (by assumption) rfl ?rest0_q
          case hy0_q => (intro w hSw; (try dsimp only at hSw); go_simp; (first | done | with_reducible rfl))
          (try simp only [Act.put, List.setIfInBounds_toArray, List.set_cons_zero, List.set_cons_succ])
          refine take_ (i := 1) (oi := { dst := some 49, op := Go.Op.nilCheck (Go.Operand.tmp 48), type := 0, pos := "walk.go:84", after := #[{ on := 0, ground := Go.Ground.data }], guard := none }) (v := ?v1_q) #[true, true, false, false, false, false, false, false, false] rfl rfl (by kernel_rfl) (fun _ _ _ h => h) (Or.inl ⟨by rfl, ?hy1_q⟩) (by assumption) rfl ?rest1_q
          case hy1_q => (intro w hSw; (try dsimp only at hSw); go_simp; (first | done | with_reducible rfl))
          (try simp only [Act.put, List.setIfInBounds_toArray, List.set_cons_zero, List.set_cons_succ])
          refine take_ (i := 2) (oi := { dst := some 50, op := Go.Op.fieldAddr 82 (Go.Operand.tmp 49) 3, type := 0, pos := "walk.go:84", after := #[{ on := 1, ground := Go.Ground.data }], guard := none }) (v := ?v2_q) #[true, true, true, false, false, false, false, false, false] rfl rfl (by kernel_rfl) (fun _ _ _ h => h) (Or.inl ⟨by rfl, ?hy2_q⟩) (by assumption) rfl ?rest2_q
          case hy2_q => (intro w hSw; (try dsimp only at hSw); go_simp; (first | done | with_reducible rfl))
          (try simp only [Act.put, List.setIfInBounds_toArray, List.set_cons_zero, List.set_cons_succ])
          refine take_ (i := 3) (oi := { dst := some 51, op := Go.Op.load 33 (Go.Operand.tmp 50), type := 33, pos := "walk.go:84", after := #[{ on := 2, ground := Go.Ground.data }], guard := none }) (v := ?v3_q) #[true, true, true, true, false, false, false, false, false] rfl rfl (by kernel_rfl) (fun _ _ _ h => h) (Or.inl ⟨by rfl, ?hy3_q⟩) (by assumption) rfl ?rest3_q
          case hy3_q => (intro w hSw; (try dsimp only at hSw); go_simp; (first | done | with_reducible rfl))
          (try simp only [Act.put, List.setIfInBounds_toArray, List.set_cons_zero, List.set_cons_succ])
          refine take_ (i := 4) (oi := { dst := some 52, op := Go.Op.fieldAddr 36 (Go.Operand.tmp 8) 0, type := 0, pos := "walk.go:84", after := #[], guard := none }) (v := ?v4_q) #[true, true, true, true, true, false, false, false, false] rfl rfl (by kernel_rfl) (fun _ _ _ h => h) (Or.inl ⟨by rfl, ?hy4_q⟩) (by assumption) rfl ?rest4_q
          case hy4_q => (intro w hSw; (try dsimp only at hSw); go_simp; (first | done | with_reducible rfl))
          (try simp only [Act.put, List.setIfInBounds_toArray, List.set_cons_zero, List.set_cons_succ])
          refine take_ (i := 5) (oi := { dst := some 53, op := Go.Op.load 9 (Go.Operand.tmp 52), type := 9, pos := "walk.go:84", after := #[{ on := 4, ground := Go.Ground.data }], guard := none }) (v := ?v5_q) #[true, true, true, true, true, true, false, false, false] rfl rfl (by kernel_rfl) (fun _ _ _ h => h) (Or.inl ⟨by rfl, ?hy5_q⟩) (by assumption) rfl ?rest5_q
          case hy5_q => (intro w hSw; (try dsimp only at hSw); go_simp; (first | done | with_reducible rfl))
          (try simp only [Act.put, List.setIfInBounds_toArray, List.set_cons_zero, List.set_cons_succ])
          refine take_ (i := 6) (oi := { dst := some 54, op := Go.Op.lookup 33 (Go.Operand.tmp 51) (Go.Operand.tmp 53) false, type := 3, pos := "walk.go:84", after := #[{ on := 3, ground := Go.Ground.data }, { on := 5, ground := Go.Ground.data }], guard := none }) (v := ?v6_q) #[true, true, true, true, true, true, true, false, false] rfl rfl (by kernel_rfl) (fun _ _ _ h => h) (Or.inl ⟨by rfl, ?hy6_q⟩) (by assumption) rfl ?rest6_q
          case hy6_q => (intro w hSw; (try dsimp only at hSw); have hlkq := hSw.2.2.look x.f0 HXS.out.1; go_simp; (first | done | with_reducible rfl))
          (try simp only [Act.put, List.setIfInBounds_toArray, List.set_cons_zero, List.set_cons_succ])
          refine take_ (i := 7) (oi := { dst := some 55, op := Go.Op.binOp Go.BinOp.add 3 (Go.Operand.tmp 54) (Go.Operand.const (Go.Value.int Go.IntKind.i64 1)) 3, type := 3, pos := "walk.go:84", after := #[{ on := 6, ground := Go.Ground.data }], guard := none }) (v := ?v7_q) #[true, true, true, true, true, true, true, true, false] rfl rfl (by kernel_rfl) (fun _ _ _ h => h) (Or.inl ⟨by rfl, ?hy7_q⟩) (by assumption) rfl ?rest7_q
          case hy7_q => (intro w hSw; (try dsimp only at hSw); go_simp; (first | done | with_reducible rfl))
          (try simp only [Act.put, List.setIfInBounds_toArray, List.set_cons_zero, List.set_cons_succ])
          refine last_ (i := 8) (oi := { dst := none, op := Go.Op.mapUpdate 33 (Go.Operand.tmp 51) (Go.Operand.tmp 53) (Go.Operand.tmp 55), type := 0, pos := "walk.go:84", after := #[{ on := 3, ground := Go.Ground.data }, { on := 5, ground := Go.Ground.data }, { on := 7, ground := Go.Ground.data }, { on := 0, ground := Go.Ground.phase }, { on := 1, ground := Go.Ground.phase }, { on := 2, ground := Go.Ground.phase }, { on := 3, ground := Go.Ground.phase }, { on := 4, ground := Go.Ground.phase }, { on := 5, ground := Go.Ground.phase }, { on := 6, ground := Go.Ground.phase }, { on := 7, ground := Go.Ground.phase }], guard := none }) #[true, true, true, true, true, true, true, true, true] rfl rfl (by kernel_rfl) (by decide) (fun K hK => ?_)
          go_simp
          refine hK.out _ _ ?_
          clear hK K
          refine done_ (by kernel_rfl) ?_
          clear hput a10 a11 a12 d10 d11 d12 d13 d14 n0 n1 af1
          have i10 := (I9.out.drewN 1).come HG10.out HM10.out
          have k10 : Kept w9 w10 (fun k => k = gm) := ⟨HG10.out.size, fun k hk hne => HG10.out.block k hk (by intro e; injection e with e; exact hne e), HG10.out.os, HG10.out.tape, HG10.out.output⟩
          have gmne := I9.out.ne
          have hgN : gm ≠ wr.heap.size ∧ gm ≠ bx ∧ gm ≠ W.heap.size := ⟨by omega, by omega, by omega⟩
          have h9w := KK9.out.1
          have hbx9 := blk_lt B9.out
          have x10 : w10.heap[wr.heap.size]? = _ := (k10.2 _ (by omega) (Ne.symm hgN.1)).trans X9.out
          have y10 : w10.heap[W.heap.size]? = _ := (k10.2 _ (by omega) (Ne.symm hgN.2.2)).trans Y9.out
          have b10 : w10.heap[bx]? = _ := (k10.2 _ hbx9 (Ne.symm hgN.2.1)).trans B9.out
          have f10 := Kd.F_kept HF9.out k10 (fun k hk e => by have := hk.1; omega)
          have r10 := row_not_map R9.out I9.out.map k10
          obtain ⟨d10, d11, d12, d13, d14⟩ := i10.cells
          have I10 := Lib.hid i10; clear i10
          have c0 := (blk_cell x10 0).trans rfl
          have c1 := (blk_cell x10 1).trans rfl
          have c2 := (blk_cell x10 2).trans rfl
          have m0 := (blk_cell b10 0).trans rfl
          have m1 := (blk_cell b10 1).trans rfl
          have X10 := Lib.hid x10; clear x10
          have Y10 := Lib.hid y10; clear y10
          have B10 := Lib.hid b10; clear b10
          have F10 := Lib.hid f10; clear f10
          have R10 := Lib.hid r10; clear r10
          have K10 := Lib.hid k10; clear k10
          have hst := Kd.R_take (m := rest.length) I10.out.stack (by simp)
          rw [show List.take rest.length (x :: rest).reverse = rest.reverse by simp] at hst
          have I11 := Lib.hid (I10.out.put hst); clear hst
          have gbx : bx ≠ gw := by omega
          have gwr : wr.heap.size ≠ gw := by omega
          have f11 := Lib.hid (Kd.F_far (p := ⟨gw, 2, none⟩) F10.out (fun k hk => by have := hk.1; show k ≠ gw; omega) (.slice (some ⟨g1, 0, none⟩) rest.length cap))
          have r11 := Lib.hid (Kd.R_set R10.out I10.out.obj (by decide) 2 (.slice (some ⟨g1, 0, none⟩) rest.length cap))
          have k11 := Lib.hid ((K9.out.then_ K10.out (fun k hk => .inl (.inr (.inl hk)))).setCell (p := ⟨gw, 2, none⟩) (.inl (.inl rfl)) (.slice (some ⟨g1, 0, none⟩) rest.length cap))
          have y11 := Lib.hid ((Below.heap_setCell w10 ⟨gw, 2, none⟩ (.slice (some ⟨g1, 0, none⟩) rest.length cap) W.heap.size (by show W.heap.size ≠ gw; omega)).trans Y10.out)
          have hw10 : w9.heap.size ≤ w10.heap.size := K10.out.1
          by_cases hk2 : (F x.f0).1 = 2
          · go_wp2_with fail
            refine (callsIn_wide.1 (below_calls _ B gw gm _ dep sug rest _ _ (I11.out.mono (fun k hk => hk.1) (fun k hk => hk)) x.f0 x.f1 A5 x.f2.length c5 A8 c8 (F x.f0).2 _ f11.out (fun k hk => by have := hk.1; refine ⟨by omega, by omega, ?_⟩; simp [Value.ownBlock]; omega)
              (by have := (HF.out x.f0).1; omega) HXS.out.2.2.1 HXS.out.2.1 (fun ch hch => by have := ((HF.out x.f0).2 ch hch).2; omega))).mono ?_
            rintro e w12 ⟨⟨v12, rfl⟩, vs2, i12, k12, hv12⟩
            have x12 : w12.heap[wr.heap.size]? = _ := (k12.2 _ (by simp; omega) (by simp [Value.ownBlock]; omega)).trans ((Below.heap_setCell _ _ _ _ gwr).trans X10.out)
            have y12 : w12.heap[W.heap.size]? = _ := (k12.2 _ (by simp; omega) (by simp [Value.ownBlock]; omega)).trans y11.out
            obtain ⟨ct, hct⟩ := Kd.R_typed I11.out.stack g1 rfl
            have r12 := Kd.R_mono (Kd.R_kept (Kd.R_types (Kd.R_types r11.out I11.out.obj (by decide)) hct (by decide)) k12 (by rintro k ⟨⟨_, h1⟩, h2⟩ (e | e); exact h1 e; exact h2 (by simpa [Value.ownBlock] using e))) (fun _ _ => trivial)
            clear c0 c1 c2
            have c0 := (blk_cell x12 0).trans rfl
            have c1 := (blk_cell x12 1).trans rfl
            have c2 := (blk_cell x12 2).trans rfl
            have e0 := (blk_cell y12 0).trans rfl
            have e1 := (blk_cell y12 1).trans rfl
            have e2 := (blk_cell y12 2).trans rfl
            have af2 : ∀ i, w12.frozen? ⟨W.heap.size, i, none⟩ = false := fun i => by simp [World.frozen?, y12]
            have I12 := Lib.hid i12; clear i12
            have R12 := Lib.hid r12; clear r12
            have K12 := Lib.hid k12; clear k12
            have HV12 := Lib.hid hv12; clear hv12
            have Y12 := Lib.hid y12; clear y12
            clear x12 hct
            go_wp2_with fail
            refine bodyPost_ret (v := .tuple #[.agg #[.string x.f0, .int .i64 x.f1, .slice A5 x.f2.length c5], .int .i64 2, .bool true]) (by simp [results, Try.results15, go_sem, e0, e1, e2]) rfl ?_
            rw [HN2.out, if_neg HKD.out, if_pos hk2]
            have hv : vs2.ownBlock = vs.ownBlock ∨ ∃ b, vs2.ownBlock = some b ∧ W.heap.size ≤ b := HV12.out.imp (fun h => h.trans HO.out) (fun ⟨b, h, hb⟩ => ⟨b, h, by simp at hb; omega⟩)
            refine ret_step rfl I12.out hgw hgm Y12.out ?_ (k11.out.then_ K12.out (fun k hk => .inl (hk.elim (fun e => .inl e) (fun e => .inr (.inr (e.trans HO.out)))))) hv R12.out (Nat.lt_succ_of_lt hNb)
            rcases HV12.out with e | ⟨b, e, hb⟩
            · rw [e]; simp [Value.ownBlock]; omega
            · rw [e]; intro e; injection e with e; simp at hb; omega
          · go_wp2_with fail
            refine (drop_calls (okN gw gm W) _ B gw gm _ dep sug rest _ _ I11.out (fun s hs => (HS.out s (by simp [hs])).1) (by omega)).mono ?_
            rintro e w12 ⟨rfl, vs2, i12, hv12, k12⟩
            have hdl2 := dropM_len (cameF (x.f0 :: L')) rest
            have I12 := Lib.hid i12; clear i12
            have HV12 := Lib.hid hv12; clear hv12
            have K12 := Lib.hid k12; clear k12
            go_wp2_with fail
            go_roundg ((dropM (cameF (x.f0 :: L')) rest).length)
            case rel =>
              refine ⟨_, x.f0 :: L', vs2, rfl, I12.out, k11.out.of_keep K12.out (.inl (.inl rfl)), Lib.hid (HV12.out.trans HO.out), Lib.hid ?_, Lib.hid (fun x r hx => dropM_head _ rest x r hx), Lib.hid (fun s hs => HS.out s (List.mem_cons_of_mem _ (dropM_sub _ rest s hs))), by omega, by simp only [List.length_cons]; omega, (K12.out.2 _ ?_ ?_ (by simp)).trans y11.out⟩
              · rw [HN2.out, if_neg HKD.out, if_neg hk2, nextM_drop]
              · have := blk_lt y11.out
                exact this
              · omega
            case measure => first | omega | (simp only [List.length_cons]; omega)
theorem next_calls (W : World) (B gw gm : Nat) (vs : Value) (dep : Int) (sug : Bool) (row : List S38) (L : List ByteArray) (h : IsWalk W B gw gm vs dep sug row L.length (cameF L))
    (g : Nat) (lb : Array Value) (F : ByteArray → Int × List S44) (w0 : World) (hB0 : w0.heap.size ≤ B) (hb : Kept w0 W (fun _ => False)) (hA : AskFn g lb F w0) (hF : FOk F) (hrow : ∀ s ∈ row, SOk s) (hlen : row.length ≤ 900000000000) (hL : L.length + row.length ≤ 900000000000) :
    Calls Try.prog 15 #[.pointer (some ⟨gw, 0, none⟩), .func (.func g) #[] lb] W (NextPost B gw gm vs dep sug W (nextM F dep sug row L)) :=
  next_callsS W B gw gm vs dep sug row L h g lb F ⟨hA.enters, fun room A c via W1 hk hr hC => hA.tells room A c via W1 (hb.then_ hk (fun k hk => .inr (Nat.le_trans hB0 (hk.elim (fun e => e ▸ h.base.1) (fun hk => hk.elim (fun e => e ▸ h.base.2.1) (fun e => Kd.R_base h.stack k e.symm)))))) hr hC⟩ hF hrow hlen hL
end Go.Proofs.Yteamocejpankdaa
