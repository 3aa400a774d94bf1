/- What is told of some rooms, as a function value that a walk asks. For every world. -/
import Derived.Test.YteamocejpankdaaA9
import Derived.Test.YteamocejpankdaaG1
namespace Go.Proofs.Yteamocejpankdaa
open Go.Proofs.YteamocejpankdaaW.PrintLast Go.RowKit Go.Shelf Go.Proofs.YteamocejpankdaaW.PrintWords Go.Proofs.Yteamocejpankdaa.PWalkCopies
set_option linter.unusedVariables false
set_option linter.unusedSimpArgs false

def askM (l : List S41) (room : ByteArray) : Int × List S44 := match l with
  | [] => (1, [])
  | f :: l => if f.f0 = room then (f.f1, f.f2) else askM l room
theorem bytes_toList {a b : ByteArray} (h : a.toList = b.toList) : a = b := WideShapes.bytes_inj (by rw [← ByteArray.toList_eq, ← ByteArray.toList_eq, h])
theorem ask_l0 (l : List S41) (room : ByteArray) (hl : l.length ≤ 1000000) : ∀ n i, l.length - i = n → i ≤ l.length → ∃ r1, enfiladeref20_Ask.l0 (n + 1) l room (l.length : Int) (i : Int) = some (r1, askM (l.drop i) room) := by
  intro n
  induction n with
  | zero =>
    intro i h1 h2
    have e : i = l.length := by omega
    subst e
    exact ⟨room, by simp [enfiladeref20_Ask.l0, askM]⟩
  | succ n ih =>
    intro i h1 h2
    have hi : i < l.length := by omega
    unfold enfiladeref20_Ask.l0
    rw [if_pos (by omega), if_pos (by omega), if_pos (by omega), List.drop_eq_getElem_cons hi]
    have hrd : rd_T41 l (i : Int) = l[i] := by simp [rd_T41, List.getD_eq_getElem?_getD, hi]
    rw [hrd]
    unfold askM
    by_cases he : l[i].f0 = room
    · rw [if_pos (by rw [he]), if_pos he]; exact ⟨_, rfl⟩
    · rw [if_neg (fun h => he (bytes_toList h)), if_neg he]
      have := ih (i + 1) (by omega) (by omega)
      rw [show wrap64 ((i : Int) + 1) = ((i + 1 : Nat) : Int) by unfold wrap64; omega]
      exact this
theorem ask_f (l : List S41) (room : ByteArray) (hl : l.length ≤ 1000000) : ∃ k r1, enfiladeref20_Ask.f k l room = some (r1, (askM l room).1, (askM l room).2) := by
  obtain ⟨r1, h⟩ := ask_l0 l room hl l.length 0 (by omega) (by omega)
  exact ⟨_, r1, by unfold enfiladeref20_Ask.f; simpa using h⟩

set_option maxRecDepth 100000 in
set_option maxHeartbeats 1000000 in
theorem ask1_calls (W : World) (l : List S41) (gb : Nat) (A : Option Addr) (c : Nat) (ok : Nat → Prop) (room : ByteArray) (Av : Option Addr) (nv cv : Nat) (hb : W.heap[gb]? = some (.cells #[.slice A l.length c] 22 (0, 0))) (hV : Kd.V k41 41 W W.heap.size ok (.slice A l.length c) l)
    (hl : l.length ≤ 1000000) (hF : FOk (askM l)) :
    Calls Try.prog 18 #[.string room, .slice Av nv cv, .pointer (some ⟨gb, 0, none⟩)] W fun e W' => ∃ A' c', e = .returned (.agg #[.int .i64 (askM l room).1, .slice A' (askM l room).2.length c']) ∧ (askM l room).2.length ≤ c' ∧
      Kd.F k44 W' (fun k => W.heap.size ≤ k) A' (askM l room).2.length (askM l room).2 ∧ Below W.heap.size W W' := by
  obtain ⟨k, r1, hk⟩ := ask_f l room hl
  have q0 := (blk_cell hb 0).trans rfl
  have hlt := blk_lt hb
  have HV := Lib.hid hV; clear hV
  have HF := Lib.hid hF; clear hF
  have HK := Lib.hid hk; clear hk
  go_enter Try.func18, Try.ntmps18
  go_wp2_with fail
  refine (enfiladeref20_Ask.calls k ok A c l room r1 (askM l room).1 (askM l room).2 _ (Kd.V_map HV.out (fun _ h => Kd.F_alloc h _)) HK.out).mono ?_
  rintro e w1 ⟨v2, rfl, hV1, hb1⟩
  obtain ⟨A2, c2, rfl⟩ := Kd.V_slice hV1
  have hc2 := (Kd.V_at hV1).2.1
  have hs1 := hb1.size
  rw [World.size_alloc] at hs1
  have y1 : w1.heap[W.heap.size]? = some (.cells #[.int .i64 0, .slice none 0 0] 65 (0, 0)) := (hb1.block _ (by simp)).trans (heap_alloc_new W _)
  have HB1 := Lib.hid ((below_alloc (Below.refl W.heap.size W) (.cells #[.int .i64 0, .slice none 0 0] 65)).trans (hb1.mono (by simp))); clear hb1
  have HV1 := Lib.hid hV1; clear hV1
  go_wp2_with fail
  have hbx := heap_alloc_new w1 (.cells #[.string r1, .int .i64 (askM l room).1, .slice A2 (askM l room).2.length c2] 41)
  have y2 : (w1.alloc (.cells #[.string r1, .int .i64 (askM l room).1, .slice A2 (askM l room).2.length c2] 41)).heap[W.heap.size]? = some (.cells #[.int .i64 0, .slice none 0 0] 65 (0, 0)) := (Below.heap_alloc w1 _ _ (blk_lt y1)).trans y1
  have hB2 := below_alloc HB1.out (.cells #[.string r1, .int .i64 (askM l room).1, .slice A2 (askM l room).2.length c2] 41)
  have hF2 := Kd.F_alloc (Kd.V_F HV1.out) (.cells #[.string r1, .int .i64 (askM l room).1, .slice A2 (askM l room).2.length c2] 41)
  have hs2 : (w1.alloc (.cells #[.string r1, .int .i64 (askM l room).1, .slice A2 (askM l room).2.length c2] 41)).heap.size = w1.heap.size + 1 := World.size_alloc _ _
  generalize (w1.alloc (.cells #[.string r1, .int .i64 (askM l room).1, .slice A2 (askM l room).2.length c2] 41)) = w2 at *
  have a1 := (blk_cell hbx 1).trans rfl
  have a2 := (blk_cell hbx 2).trans rfl
  have HB2 := Lib.hid hB2; clear hB2
  have HF2 := Lib.hid hF2; clear hF2
  have HBX := Lib.hid hbx; clear hbx
  have Y2 := Lib.hid y2; clear y2
  have SB : ∀ X : World, Below w2.heap.size w2 X → X.cell? ⟨w1.heap.size, 1, none⟩ = some (.int .i64 (askM l room).1) ∧ X.cell? ⟨w1.heap.size, 2, none⟩ = some (.slice A2 (askM l room).2.length c2) := fun X hX => ⟨(hX.cell (p := ⟨w1.heap.size, 1, none⟩) (by show w1.heap.size < _; omega)).trans a1, (hX.cell (p := ⟨w1.heap.size, 2, none⟩) (by show w1.heap.size < _; omega)).trans a2⟩
  have SB := Lib.hid SB
  refine start_ (S := fun w' : World => w'.cell? ⟨w1.heap.size, 1, none⟩ = some (.int .i64 (askM l room).1) ∧ w'.cell? ⟨w1.heap.size, 2, none⟩ = some (.slice A2 (askM l room).2.length c2)) (ds := [6]) #[false, false, false, false, false, false, false] rfl rfl rfl ⟨a1, a2⟩ (fun hHeld => ?_)
  refine take_ (i := 0) (oi := { dst := some 10, op := Go.Op.fieldAddr 41 (Go.Operand.tmp 6) 1, type := 0, pos := "law.go:40", after := #[], guard := none }) (v := ?v0_) #[true, false, false, false, false, false, false] rfl rfl (by kernel_rfl) (fun _ _ _ h => h) (Or.inl ⟨by rfl, ?hy0_⟩) (by assumption) rfl ?rest0_
  case hy0_ => (intro w hSw; (try dsimp only at hSw); go_simp; (first | done | with_reducible rfl))
  (try simp only [Act.put, List.setIfInBounds_toArray, List.set_cons_zero, List.set_cons_succ])
  refine take_ (i := 1) (oi := { dst := some 11, op := Go.Op.load 3 (Go.Operand.tmp 10), type := 3, pos := "law.go:40", after := #[{ on := 0, ground := Go.Ground.data }], guard := none }) (v := ?v1_) #[true, true, false, false, false, false, false] rfl rfl (by kernel_rfl) (fun _ _ _ h => h) (Or.inl ⟨by rfl, ?hy1_⟩) (by assumption) rfl ?rest1_
  case hy1_ => (intro w hSw; (try dsimp only at hSw); go_simp; (first | done | with_reducible rfl))
  (try simp only [Act.put, List.setIfInBounds_toArray, List.set_cons_zero, List.set_cons_succ])
  refine take_ (i := 2) (oi := { dst := some 12, op := Go.Op.fieldAddr 41 (Go.Operand.tmp 6) 2, type := 0, pos := "law.go:40", after := #[], guard := none }) (v := ?v2_) #[true, true, true, false, false, false, false] rfl rfl (by kernel_rfl) (fun _ _ _ h => h) (Or.inl ⟨by rfl, ?hy2_⟩) (by assumption) rfl ?rest2_
  case hy2_ => (intro w hSw; (try dsimp only at hSw); go_simp; (first | done | with_reducible rfl))
  (try simp only [Act.put, List.setIfInBounds_toArray, List.set_cons_zero, List.set_cons_succ])
  refine take_ (i := 3) (oi := { dst := some 13, op := Go.Op.load 39 (Go.Operand.tmp 12), type := 39, pos := "law.go:40", after := #[{ on := 2, ground := Go.Ground.data }], guard := none }) (v := ?v3_) #[true, true, true, true, false, false, false] rfl rfl (by kernel_rfl) (fun _ _ _ h => h) (Or.inl ⟨by rfl, ?hy3_⟩) (by assumption) rfl ?rest3_
  case hy3_ => (intro w hSw; (try dsimp only at hSw); go_simp; (first | done | with_reducible rfl))
  (try simp only [Act.put, List.setIfInBounds_toArray, List.set_cons_zero, List.set_cons_succ])
  refine one_ (i := 4) (oi := { dst := some 14, op := Go.Op.call { callee := Go.Callee.value (Go.Operand.func 19), args := #[Go.Operand.tmp 13], argTypes := #[39] }, type := 63, pos := "law.go:40", after := #[{ on := 3, ground := Go.Ground.data }], guard := none }) #[true, true, true, true, true, false, false] rfl rfl (by kernel_rfl) (by decide) (fun K hK => ?_)
  go_simp
  have hf := HF.out room
  refine (children_calls _ A2 c2 (askM l room).2 _ (Kd.F_drew HF2.out) hf.1 (fun ch hch => (hf.2 ch hch).2)).mono ?_
  rintro e w3 ⟨v3, rfl, hR3, hB3⟩
  obtain ⟨A3, c3, rfl⟩ := Kd.R_slice hR3
  have hb3 : Below w2.heap.size w2 w3 := (below_drew (Below.refl _ w2)).trans hB3
  have y3 : w3.heap[W.heap.size]? = _ := (hb3.block _ (blk_lt Y2.out)).trans Y2.out
  have n0 := (blk_cell y3 0).trans rfl
  have n1 := (blk_cell y3 1).trans rfl
  have nf : ∀ i, w3.frozen? ⟨W.heap.size, i, none⟩ = false := fun i => by simp [World.frozen?, y3]
  have hlt3 := blk_lt y3
  have Y3 := Lib.hid y3; clear y3
  have HR3 := Lib.hid hR3; clear hR3
  have HB3 := Lib.hid hb3; clear hb3
  refine hK.out _ _ (SB.out _ HB3.out) (fun hHeld2 => ?_)
  clear hK K
  (try simp only [Act.put, List.setIfInBounds_toArray, List.set_cons_zero, List.set_cons_succ])
  refine take_ (i := 5) (oi := { dst := some 15, op := Go.Op.build 65 #[(0, Go.Operand.tmp 11), (1, Go.Operand.tmp 14)], type := 65, pos := "law.go:40", after := #[{ on := 1, ground := Go.Ground.data }, { on := 4, ground := Go.Ground.data }], guard := none }) (v := ?v5_) #[true, true, true, true, true, true, false] rfl rfl (by kernel_rfl) (fun _ _ _ h => h) (Or.inl ⟨by rfl, ?hy5_⟩) hHeld2 rfl ?rest5_
  case hy5_ => (intro w hSw; (try dsimp only at hSw); go_simp; (first | done | with_reducible rfl))
  (try simp only [Act.put, List.setIfInBounds_toArray, List.set_cons_zero, List.set_cons_succ])
  refine last_ (i := 6) (oi := { dst := none, op := Go.Op.store 65 (Go.Operand.tmp 5) (Go.Operand.tmp 15), type := 0, pos := "law.go:40", after := #[{ on := 5, ground := Go.Ground.data }, { on := 4, ground := Go.Ground.chain }, { on := 0, ground := Go.Ground.phase }, { on := 1, ground := Go.Ground.phase }, { on := 2, ground := Go.Ground.phase }, { on := 3, ground := Go.Ground.phase }, { on := 4, ground := Go.Ground.phase }, { on := 5, ground := Go.Ground.phase }], guard := none }) #[true, true, true, true, true, true, true] rfl rfl (by kernel_rfl) (by decide) (fun K hK => ?_)
  go_simp
  refine hK.out _ _ ?_
  clear hK K
  refine done_ (by kernel_rfl) ?_
  go_wp2_with fail
  refine bodyPost_ret (v := .agg #[.int .i64 (askM l room).1, .slice A3 (askM l room).2.length c3]) (by simp [results, Try.results18, go_sem, n0, n1, hlt3]) rfl ?_
  have hW2 : W.heap.size < w2.heap.size := blk_lt Y2.out
  have hR := Kd.R_mono (Kd.R_bound HR3.out) (ok' := fun k => W.heap.size ≤ k ∧ k ≠ W.heap.size) (fun k hk => by have h1 := hk.2.1; have h2 : w2.drew.heap.size = w2.heap.size := rfl; rw [h2] at h1; omega)
  refine ⟨A3, c3, rfl, (Kd.R_reads' HR3.out).2.1, Kd.F_mono (Kd.R_F (Kd.R_far (Kd.R_far hR (p := ⟨W.heap.size, 0, none⟩) (fun k hk => hk.2) (.int .i64 (askM l room).1)) (p := ⟨W.heap.size, 1, none⟩) (fun k hk => hk.2) _)) (fun k hk => hk.1), ?_⟩
  exact ((HB2.out.trans (HB3.out.mono (Nat.le_of_lt hW2))).setCell (p := ⟨W.heap.size, 0, none⟩) (Nat.le_refl _) _).setCell (p := ⟨W.heap.size, 1, none⟩) (Nat.le_refl _) _

theorem askFn_of {w0 : World} {l : List S41} {gb : Nat} {A : Option Addr} {c : Nat} {ok : Nat → Prop} (hb : w0.heap[gb]? = some (.cells #[.slice A l.length c] 22 (0, 0))) (hV : Kd.V k41 41 w0 w0.heap.size ok (.slice A l.length c) l) (hl : l.length ≤ 1000000) (hF : FOk (askM l)) :
    AskFn 18 #[.pointer (some ⟨gb, 0, none⟩)] (askM l) w0 where
  enters := enters_of Try.func18 (by kernel_rfl) rfl
  tells := fun room A2 c2 via W hk hr hC => by
    refine (ask1_calls W l gb A c ok room A2 via.length c2 ((hk.2 gb (blk_lt hb) (fun h => h)).trans hb) (Kd.V_map hV (fun _ h => Kd.F_kept h hk (fun _ _ h => h))) hl hF).mono ?_
    rintro e W' ⟨A', c', rfl, h1, h2, h3⟩
    exact ⟨A', c', rfl, h1, h2, h3⟩

theorem mkask_calls (W : World) (A : Option Addr) (n c : Nat) : Calls Try.prog 9 #[.slice A n c] W fun e W' => e = .returned (.func (.func 18) #[] #[.pointer (some ⟨W.heap.size, 0, none⟩)]) ∧ W' = W.alloc (.cells #[.slice A n c] 22) := by
  go_enter Try.func9, Try.ntmps9
  go_wp2_with fail
  go_ret
  exact ⟨rfl, rfl⟩
end Go.Proofs.Yteamocejpankdaa
