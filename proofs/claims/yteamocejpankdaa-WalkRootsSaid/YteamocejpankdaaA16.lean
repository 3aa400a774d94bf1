/- WalkRoots: the walk of the law's own code. For every world. -/
import Derived.Test.YteamocejpankdaaA15
import Derived.Test.YteamocejpankdaaB5
import Derived.Test.YteamocejpankdaaPWalkCopiesx3
namespace Go.Proofs.Yteamocejpankdaa
open Go.Proofs.YteamocejpankdaaW.PrintLast Go.RowKit Go.Shelf Go.Proofs.YteamocejpankdaaW.PrintWords Go.Proofs.Yteamocejpankdaa.PWalkCopies
set_option linter.unusedVariables false
set_option linter.unusedSimpArgs false

set_option maxRecDepth 100000 in
set_option maxHeartbeats 4000000 in
theorem walkRoots_calls (W : World) (A : Option Addr) (c : Nat) (l : List S41) (ok : Nat → Prop) (hV : Kd.V k41 41 W 0 ok (.slice A l.length c) l) (root : ByteArray) (depth frm : Int) (sug : Bool) (hl : l.length ≤ 9223372036854775807) (hc : ∀ f ∈ l, f.f2.length ≤ 9223372036854775807) (hr : root.size ≤ 9223372036854775807) :
    Calls Try.prog 4 #[.slice A l.length c, .agg #[.string root, .int .i64 depth, .int .i64 frm, .bool sug]] W (TPost W) := by
  have HV := Lib.hid hV; clear hV
  cases hf : fewB l with
  | false =>
    have HF := Lib.hid hf; clear hf
    go_enter Try.func4, Try.ntmps4
    go_wp2_with fail
    refine (awake_calls _).mono ?_
    rintro e w1 ⟨rfl, hk1⟩
    have hk := (Kept.alloc (Kept.refl W (fun _ => False)) (.cells #[.string root, .int .i64 depth, .int .i64 frm, .bool sug] 24)).then_ hk1 (fun _ h => h.elim)
    have HK := Lib.hid hk; clear hk hk1
    go_wp2_with fail
    refine (few_calls A c l _ 0 ok (Kd.V_kept HV.out HK.out (fun _ _ h => h)) hl hc).mono ?_
    rintro e w2 ⟨rfl, hb2⟩
    rw [HF.out]
    have hk2 := HK.out.below hb2
    have HK2 := Lib.hid hk2; clear hk2 hb2
    go_wp2_with fail
    refine (awake_calls _).mono ?_
    rintro e w3 ⟨rfl, hk3⟩
    have hk3 := HK2.out.then_ hk3 (fun _ h => h.elim)
    have HK3 := Lib.hid hk3; clear hk3
    go_wp2_with fail
    go_ret
    exact ⟨rfl, HK3.out⟩
  | true =>
    have HF := Lib.hid hf; clear hf
    go_enter Try.func4, Try.ntmps4
    go_wp2_with fail
    have hbx := heap_alloc_new W (.cells #[.string root, .int .i64 depth, .int .i64 frm, .bool sug] 24)
    have HBX := Lib.hid hbx; clear hbx
    have hsz : (W.alloc (.cells #[.string root, .int .i64 depth, .int .i64 frm, .bool sug] 24)).heap.size = W.heap.size + 1 := World.size_alloc _ _
    have HSZ := Lib.hid hsz; clear hsz
    refine (awake_calls _).mono ?_
    rintro e w1 ⟨rfl, hk1⟩
    have hk := (Kept.alloc (Kept.refl W (fun _ => False)) (.cells #[.string root, .int .i64 depth, .int .i64 frm, .bool sug] 24)).then_ hk1 (fun _ h => h.elim)
    have hb1 := (hk1.2 W.heap.size (by have := HSZ.out; omega) (fun h => h)).trans HBX.out
    have HK := Lib.hid hk; clear hk hk1
    have HB1 := Lib.hid hb1; clear hb1
    go_wp2_with fail
    refine (few_calls A c l _ 0 ok (Kd.V_kept HV.out HK.out (fun _ _ h => h)) hl hc).mono ?_
    rintro e w2 ⟨rfl, hb2⟩
    rw [HF.out]
    have hx2 := (hb2.block _ (blk_lt HB1.out)).trans HB1.out
    have hk2 := HK.out.below hb2
    have HK2 := Lib.hid hk2; clear hk2 hb2
    have a0 := (blk_cell hx2 0).trans rfl
    have a1 := (blk_cell hx2 1).trans rfl
    have a3 := (blk_cell hx2 3).trans rfl
    have HX2 := Lib.hid hx2; clear hx2
    clear HBX HSZ HK HB1
    by_cases hr1 : 150 < root.size
    · go_wp2_with fail
      refine (awake_calls _).mono ?_
      rintro e w3 ⟨rfl, hk3⟩
      have hk3 := HK2.out.then_ hk3 (fun _ h => h.elim)
      have HK3 := Lib.hid hk3; clear hk3
      go_wp2_with fail
      go_ret
      exact ⟨rfl, HK3.out⟩
    · go_wp2_with fail
      obtain ⟨outp, lop, hTp, holp, hlop, hlolp, _, _, _⟩ := few_out HF.out (show root.size ≤ 150 by omega) 0 sug
      obtain ⟨outq, loq, hTq, holq, hloq, hlolq, _, _, _⟩ := few_out HF.out (show root.size ≤ 150 by omega) 1 sug
      have HTp := Lib.hid hTp; clear hTp
      have HLOp := Lib.hid hlop; clear hlop
      have HTq := Lib.hid hTq; clear hTq
      have HLOq := Lib.hid hloq; clear hloq
      have HXp := Lib.hid HX2.out; clear HX2
      have HKWp := Lib.hid HK2.out; clear HK2
      have hxl := blk_lt HXp.out
      have SB : ∀ X : World, X.heap[W.heap.size]? = w2.heap[W.heap.size]? → X.cell? ⟨W.heap.size, 0, none⟩ = some (.string root) ∧ X.cell? ⟨W.heap.size, 3, none⟩ = some (.bool sug) := fun X h => ⟨(World.cell?_of_block h).trans a0, (World.cell?_of_block h).trans a3⟩
      have SB := Lib.hid SB
      refine start_ (S := (fun w' : World => w'.cell? ⟨W.heap.size, 0, none⟩ = some (.string root) ∧ w'.cell? ⟨W.heap.size, 3, none⟩ = some (.bool sug))) (ds := [7]) #[false, false, false, false, false, false, false, false] rfl rfl rfl ⟨a0, a3⟩ (fun hHeld => ?_)
      refine take_ (i := 0) (oi := { dst := some 28, op := Go.Op.fieldAddr 24 (Go.Operand.tmp 3) 0, type := 0, pos := "law.go:178", after := #[], guard := none }) (v := ?v0_p) #[true, false, false, false, false, false, false, false] rfl rfl (by kernel_rfl) (fun _ _ _ h => h) (Or.inl ⟨by rfl, ?hy0_p⟩) (by assumption) rfl ?rest0_p
      case hy0_p => (intro w hSw; (try dsimp only at hSw); go_simp; (first | done | with_reducible rfl))
      (try simp only [Act.put, List.setIfInBounds_toArray, List.set_cons_zero, List.set_cons_succ])
      refine take_ (i := 1) (oi := { dst := some 29, op := Go.Op.load 9 (Go.Operand.tmp 28), type := 9, pos := "law.go:178", after := #[{ on := 0, ground := Go.Ground.data }], guard := none }) (v := ?v1_p) #[true, true, false, false, false, false, false, false] rfl rfl (by kernel_rfl) (fun _ _ _ h => h) (Or.inl ⟨by rfl, ?hy1_p⟩) (by assumption) rfl ?rest1_p
      case hy1_p => (intro w hSw; (try dsimp only at hSw); go_simp; (first | done | with_reducible rfl))
      (try simp only [Act.put, List.setIfInBounds_toArray, List.set_cons_zero, List.set_cons_succ])
      refine take_ (i := 2) (oi := { dst := some 30, op := Go.Op.fieldAddr 24 (Go.Operand.tmp 3) 3, type := 0, pos := "law.go:178", after := #[], guard := none }) (v := ?v2_p) #[true, true, true, false, false, false, false, false] rfl rfl (by kernel_rfl) (fun _ _ _ h => h) (Or.inl ⟨by rfl, ?hy2_p⟩) (by assumption) rfl ?rest2_p
      case hy2_p => (intro w hSw; (try dsimp only at hSw); go_simp; (first | done | with_reducible rfl))
      (try simp only [Act.put, List.setIfInBounds_toArray, List.set_cons_zero, List.set_cons_succ])
      refine take_ (i := 3) (oi := { dst := some 31, op := Go.Op.load 4 (Go.Operand.tmp 30), type := 4, pos := "law.go:178", after := #[{ on := 2, ground := Go.Ground.data }], guard := none }) (v := ?v3_p) #[true, true, true, true, false, false, false, false] rfl rfl (by kernel_rfl) (fun _ _ _ h => h) (Or.inl ⟨by rfl, ?hy3_p⟩) (by assumption) rfl ?rest3_p
      case hy3_p => (intro w hSw; (try dsimp only at hSw); go_simp; (first | done | with_reducible rfl))
      (try simp only [Act.put, List.setIfInBounds_toArray, List.set_cons_zero, List.set_cons_succ])
      refine take_ (i := 4) (oi := { dst := some 32, op := Go.Op.move (Go.Operand.tmp 0), type := 22, pos := "law.go:178", after := #[], guard := none }) (v := ?v4_p) #[true, true, true, true, true, false, false, false] rfl rfl (by kernel_rfl) (fun _ _ _ h => h) (Or.inl ⟨by rfl, ?hy4_p⟩) (by assumption) rfl ?rest4_p
      case hy4_p => (intro w hSw; (try dsimp only at hSw); go_simp; (first | done | with_reducible rfl))
      (try simp only [Act.put, List.setIfInBounds_toArray, List.set_cons_zero, List.set_cons_succ])
      refine one_ (i := 5) (oi := { dst := some 33, op := Go.Op.call { callee := Go.Callee.value (Go.Operand.func 9), args := #[Go.Operand.tmp 32], argTypes := #[22] }, type := 29, pos := "law.go:178", after := #[{ on := 4, ground := Go.Ground.data }], guard := none }) #[true, true, true, true, true, true, false, false] rfl rfl (by kernel_rfl) (by decide) (fun K hK => ?_)
      go_simp
      refine (mkask_calls _ A l.length c).mono ?_
      rintro e w3 ⟨rfl, rfl⟩
      have hk3 : Kept w2 (w2.drew.alloc (.cells #[.slice A l.length c] 22)) (fun _ => False) := (Kept.refl w2 _).drew.alloc _
      have hAF : AskFn 18 #[.pointer (some ⟨w2.heap.size, 0, none⟩)] (askM l) (w2.drew.alloc (.cells #[.slice A l.length c] 22)) :=
        askFn_of (ok := ok) (heap_alloc_new w2.drew _) (Kd.V_alloc (Kd.V_drew (Kd.V_kept HV.out HKWp.out (fun _ _ h => h))) _) (by have := few_len HF.out; omega) (fewOk_of HF.out)
      have HAF := Lib.hid hAF; clear hAF
      have HK3 := Lib.hid hk3; clear hk3
      refine hK.out _ _ (SB.out _ (HK3.out.2 _ hxl (fun h => h))) (fun hHeld7 => ?_)
      clear hK K
      (try simp only [Act.put, List.setIfInBounds_toArray, List.set_cons_zero, List.set_cons_succ])
      refine one_ (i := 6) (oi := { dst := some 34, op := Go.Op.call { callee := Go.Callee.value (Go.Operand.func 8), args := #[Go.Operand.tmp 29, Go.Operand.const (Go.Value.int Go.IntKind.i64 0), Go.Operand.tmp 31, Go.Operand.tmp 33], argTypes := #[9, 3, 4, 29] }, type := 27, pos := "law.go:178", after := #[{ on := 1, ground := Go.Ground.data }, { on := 3, ground := Go.Ground.data }, { on := 5, ground := Go.Ground.data }, { on := 5, ground := Go.Ground.chain }], guard := none }) #[true, true, true, true, true, true, true, false] rfl rfl (by kernel_rfl) (by decide) (fun K hK => ?_)
      go_simp
      refine (all_walk_calls _ root 0 sug (by unfold maxLen; omega) 18 #[.pointer (some ⟨w2.heap.size, 0, none⟩)] (askM l) _ (Kept.refl _ _) HAF.out (fewOk_of HF.out) outp HTp.out (by omega) lop HLOp.out).mono ?_
      rintro e w4 ⟨v4, rfl, hR4, hk4⟩
      obtain ⟨Ap, cp, rfl⟩ := Kd.R_slice hR4
      have hK4 : Kept w2 w4 (fun _ => False) := (HK3.out).then_ hk4 (fun _ h => h.elim)
      have HKSp := Lib.hid hK4; clear hK4 hk4
      have HRp := Lib.hid hR4; clear hR4
      refine hK.out _ _ (SB.out _ (HKSp.out.2 _ hxl (fun h => h))) (fun hHeld8 => ?_)
      clear hK K
      (try simp only [Act.put, List.setIfInBounds_toArray, List.set_cons_zero, List.set_cons_succ])
      refine last_ (i := 7) (oi := { dst := some 5, op := Go.Op.assign (Go.Operand.tmp 34), type := 27, pos := "law.go:178", after := #[{ on := 6, ground := Go.Ground.data }, { on := 6, ground := Go.Ground.chain }, { on := 0, ground := Go.Ground.phase }, { on := 1, ground := Go.Ground.phase }, { on := 2, ground := Go.Ground.phase }, { on := 3, ground := Go.Ground.phase }, { on := 4, ground := Go.Ground.phase }, { on := 5, ground := Go.Ground.phase }, { on := 6, ground := Go.Ground.phase }], guard := none }) #[true, true, true, true, true, true, true, true] rfl rfl (by kernel_rfl) (by decide) (fun K hK => ?_)
      go_simp
      refine hK.out _ _ ?_
      clear hK K
      refine done_ (by kernel_rfl) ?_
      have hx4 := (HKSp.out.2 _ hxl (fun h => h)).trans HXp.out
      clear a0 a1 a3 hHeld hHeld7 hHeld8
      have a0 := (blk_cell hx4 0).trans rfl
      have a1 := (blk_cell hx4 1).trans rfl
      have a3 := (blk_cell hx4 3).trans rfl
      have HXq := Lib.hid hx4; clear hx4
      have hk4 := HKWp.out.then_ HKSp.out (fun _ h => h.elim)
      have HKWq := Lib.hid hk4; clear hk4
      clear SB HK3 HAF hxl
      go_wp2_with fail
      have hxl := blk_lt HXq.out
      have SB : ∀ X : World, X.heap[W.heap.size]? = w4.heap[W.heap.size]? → X.cell? ⟨W.heap.size, 0, none⟩ = some (.string root) ∧ X.cell? ⟨W.heap.size, 3, none⟩ = some (.bool sug) := fun X h => ⟨(World.cell?_of_block h).trans a0, (World.cell?_of_block h).trans a3⟩
      have SB := Lib.hid SB
      refine start_ (S := (fun w' : World => w'.cell? ⟨W.heap.size, 0, none⟩ = some (.string root) ∧ w'.cell? ⟨W.heap.size, 3, none⟩ = some (.bool sug))) (ds := [7]) #[false, false, false, false, false, false, false, false] rfl rfl rfl ⟨a0, a3⟩ (fun hHeld => ?_)
      refine take_ (i := 0) (oi := { dst := some 35, op := Go.Op.fieldAddr 24 (Go.Operand.tmp 3) 0, type := 0, pos := "law.go:179", after := #[], guard := none }) (v := ?v0_q) #[true, false, false, false, false, false, false, false] rfl rfl (by kernel_rfl) (fun _ _ _ h => h) (Or.inl ⟨by rfl, ?hy0_q⟩) (by assumption) rfl ?rest0_q
      case hy0_q => (intro w hSw; (try dsimp only at hSw); go_simp; (first | done | with_reducible rfl))
      (try simp only [Act.put, List.setIfInBounds_toArray, List.set_cons_zero, List.set_cons_succ])
      refine take_ (i := 1) (oi := { dst := some 36, op := Go.Op.load 9 (Go.Operand.tmp 35), type := 9, pos := "law.go:179", after := #[{ on := 0, ground := Go.Ground.data }], guard := none }) (v := ?v1_q) #[true, true, false, false, false, false, false, false] rfl rfl (by kernel_rfl) (fun _ _ _ h => h) (Or.inl ⟨by rfl, ?hy1_q⟩) (by assumption) rfl ?rest1_q
      case hy1_q => (intro w hSw; (try dsimp only at hSw); go_simp; (first | done | with_reducible rfl))
      (try simp only [Act.put, List.setIfInBounds_toArray, List.set_cons_zero, List.set_cons_succ])
      refine take_ (i := 2) (oi := { dst := some 37, op := Go.Op.fieldAddr 24 (Go.Operand.tmp 3) 3, type := 0, pos := "law.go:179", after := #[], guard := none }) (v := ?v2_q) #[true, true, true, false, false, false, false, false] rfl rfl (by kernel_rfl) (fun _ _ _ h => h) (Or.inl ⟨by rfl, ?hy2_q⟩) (by assumption) rfl ?rest2_q
      case hy2_q => (intro w hSw; (try dsimp only at hSw); go_simp; (first | done | with_reducible rfl))
      (try simp only [Act.put, List.setIfInBounds_toArray, List.set_cons_zero, List.set_cons_succ])
      refine take_ (i := 3) (oi := { dst := some 38, op := Go.Op.load 4 (Go.Operand.tmp 37), type := 4, pos := "law.go:179", after := #[{ on := 2, ground := Go.Ground.data }], guard := none }) (v := ?v3_q) #[true, true, true, true, false, false, false, false] rfl rfl (by kernel_rfl) (fun _ _ _ h => h) (Or.inl ⟨by rfl, ?hy3_q⟩) (by assumption) rfl ?rest3_q
      case hy3_q => (intro w hSw; (try dsimp only at hSw); go_simp; (first | done | with_reducible rfl))
      (try simp only [Act.put, List.setIfInBounds_toArray, List.set_cons_zero, List.set_cons_succ])
      refine take_ (i := 4) (oi := { dst := some 39, op := Go.Op.move (Go.Operand.tmp 0), type := 22, pos := "law.go:179", after := #[], guard := none }) (v := ?v4_q) #[true, true, true, true, true, false, false, false] rfl rfl (by kernel_rfl) (fun _ _ _ h => h) (Or.inl ⟨by rfl, ?hy4_q⟩) (by assumption) rfl ?rest4_q
      case hy4_q => (intro w hSw; (try dsimp only at hSw); go_simp; (first | done | with_reducible rfl))
      (try simp only [Act.put, List.setIfInBounds_toArray, List.set_cons_zero, List.set_cons_succ])
      refine one_ (i := 5) (oi := { dst := some 40, op := Go.Op.call { callee := Go.Callee.value (Go.Operand.func 9), args := #[Go.Operand.tmp 39], argTypes := #[22] }, type := 29, pos := "law.go:179", after := #[{ on := 4, ground := Go.Ground.data }], guard := none }) #[true, true, true, true, true, true, false, false] rfl rfl (by kernel_rfl) (by decide) (fun K hK => ?_)
      go_simp
      refine (mkask_calls _ A l.length c).mono ?_
      rintro e w3 ⟨rfl, rfl⟩
      have hk3 : Kept w4 (w4.drew.alloc (.cells #[.slice A l.length c] 22)) (fun _ => False) := (Kept.refl w4 _).drew.alloc _
      have hAF : AskFn 18 #[.pointer (some ⟨w4.heap.size, 0, none⟩)] (askM l) (w4.drew.alloc (.cells #[.slice A l.length c] 22)) :=
        askFn_of (ok := ok) (heap_alloc_new w4.drew _) (Kd.V_alloc (Kd.V_drew (Kd.V_kept HV.out HKWq.out (fun _ _ h => h))) _) (by have := few_len HF.out; omega) (fewOk_of HF.out)
      have HAF := Lib.hid hAF; clear hAF
      have HK3 := Lib.hid hk3; clear hk3
      refine hK.out _ _ (SB.out _ (HK3.out.2 _ hxl (fun h => h))) (fun hHeld7 => ?_)
      clear hK K
      (try simp only [Act.put, List.setIfInBounds_toArray, List.set_cons_zero, List.set_cons_succ])
      refine one_ (i := 6) (oi := { dst := some 41, op := Go.Op.call { callee := Go.Callee.value (Go.Operand.func 8), args := #[Go.Operand.tmp 36, Go.Operand.const (Go.Value.int Go.IntKind.i64 1), Go.Operand.tmp 38, Go.Operand.tmp 40], argTypes := #[9, 3, 4, 29] }, type := 27, pos := "law.go:179", after := #[{ on := 1, ground := Go.Ground.data }, { on := 3, ground := Go.Ground.data }, { on := 5, ground := Go.Ground.data }, { on := 5, ground := Go.Ground.chain }], guard := none }) #[true, true, true, true, true, true, true, false] rfl rfl (by kernel_rfl) (by decide) (fun K hK => ?_)
      go_simp
      refine (all_walk_calls _ root 1 sug (by unfold maxLen; omega) 18 #[.pointer (some ⟨w4.heap.size, 0, none⟩)] (askM l) _ (Kept.refl _ _) HAF.out (fewOk_of HF.out) outq HTq.out (by omega) loq HLOq.out).mono ?_
      rintro e w6 ⟨v6, rfl, hR4, hk4⟩
      obtain ⟨Aq, cq, rfl⟩ := Kd.R_slice hR4
      have hK4 : Kept w4 w6 (fun _ => False) := (HK3.out).then_ hk4 (fun _ h => h.elim)
      have HKSq := Lib.hid hK4; clear hK4 hk4
      have HRq := Lib.hid hR4; clear hR4
      refine hK.out _ _ (SB.out _ (HKSq.out.2 _ hxl (fun h => h))) (fun hHeld8 => ?_)
      clear hK K
      (try simp only [Act.put, List.setIfInBounds_toArray, List.set_cons_zero, List.set_cons_succ])
      refine last_ (i := 7) (oi := { dst := some 6, op := Go.Op.assign (Go.Operand.tmp 41), type := 27, pos := "law.go:179", after := #[{ on := 6, ground := Go.Ground.data }, { on := 6, ground := Go.Ground.chain }, { on := 0, ground := Go.Ground.phase }, { on := 1, ground := Go.Ground.phase }, { on := 2, ground := Go.Ground.phase }, { on := 3, ground := Go.Ground.phase }, { on := 4, ground := Go.Ground.phase }, { on := 5, ground := Go.Ground.phase }, { on := 6, ground := Go.Ground.phase }], guard := none }) #[true, true, true, true, true, true, true, true] rfl rfl (by kernel_rfl) (by decide) (fun K hK => ?_)
      go_simp
      refine hK.out _ _ ?_
      clear hK K
      refine done_ (by kernel_rfl) ?_
      have hx4 := (HKSq.out.2 _ hxl (fun h => h)).trans HXq.out
      clear a0 a1 a3 hHeld hHeld7 hHeld8
      have a0 := (blk_cell hx4 0).trans rfl
      have a1 := (blk_cell hx4 1).trans rfl
      have a3 := (blk_cell hx4 3).trans rfl
      have HXr := Lib.hid hx4; clear hx4
      have hk4 := HKWq.out.then_ HKSq.out (fun _ h => h.elim)
      have HKWr := Lib.hid hk4; clear hk4
      clear SB HK3 HAF hxl
      have FRp := Lib.hid (Kd.F_kept (Kd.F_bound (Kd.R_F HRp.out)) HKSq.out (fun _ _ h => h))
      have FRq := Lib.hid (Kd.F_bound (Kd.R_F HRq.out))
      obtain ⟨ka, ra, hka⟩ := ask_f l root (by have := few_len HF.out; omega)
      have HKA := Lib.hid hka; clear hka
      have hV7 : Kd.V k41 41 w6 w6.heap.size ok (.slice A l.length c) l := Kd.V_kept HV.out HKWr.out (fun _ _ h => h)
      have HV7 := Lib.hid hV7; clear hV7
      go_wp2_with fail
      refine (enfiladeref20_Ask.calls ka ok A c l root ra (askM l root).1 (askM l root).2 _ HV7.out HKA.out).mono ?_
      rintro e w7 ⟨v7, rfl, hV7, hB7⟩
      obtain ⟨A7, c7, rfl⟩ := Kd.V_slice hV7
      have hx7 := (hB7.block _ (blk_lt HXr.out)).trans HXr.out
      clear a0 a1 a3
      have a0 := (blk_cell hx7 0).trans rfl
      have hb8 := heap_alloc_new w7 (.cells #[.string ra, .int .i64 (askM l root).1, .slice A7 (askM l root).2.length c7] 41)
      have hk8 := ((HKWr.out.below hB7).alloc (.cells #[.string ra, .int .i64 (askM l root).1, .slice A7 (askM l root).2.length c7] 41))
      have hk68 := ((Kept.refl w6 (fun _ => False)).below hB7).alloc (.cells #[.string ra, .int .i64 (askM l root).1, .slice A7 (askM l root).2.length c7] 41)
      have hx8 := (Below.heap_alloc w7 (.cells #[.string ra, .int .i64 (askM l root).1, .slice A7 (askM l root).2.length c7] 41) _ (blk_lt hx7)).trans hx7
      have hV8 := Kd.V_alloc hV7 (.cells #[.string ra, .int .i64 (askM l root).1, .slice A7 (askM l root).2.length c7] 41)
      have hxl7 := blk_lt hx7
      have HX8 := Lib.hid hx8; clear hx8 hx7
      have HB8 := Lib.hid hb8; clear hb8
      have HK8 := Lib.hid hk8; clear hk8
      have HK68 := Lib.hid hk68; clear hk68
      have HV8 := Lib.hid hV8; clear hV8 hV7 hB7
      have hnq : newB root 1 = newB root 0 := rfl
      have HNQ := Lib.hid hnq; clear hnq
      cases hnb : newB root 0 with
      | false =>
        obtain ⟨kn, cc, r6, r7, hc0, hn⟩ := new4_no root 0 false (by omega) hnb
        have hl1 := HLOp.out
        have hl2 := HLOq.out
        rw [hnb, if_neg (by decide)] at hl1
        rw [HNQ.out, hnb, if_neg (by decide)] at hl2
        subst hl1 hl2
        have hc1 : (cc != 0) = true := by simpa using hc0
        go_wp2_with fail
        refine (enfiladeref20_New.calls kn root 0 false 0 false [] [] cc r6 r7 _ hn).mono ?_
        clear hn
        rintro e w9 ⟨v2, v3, rfl, hS, hR, hb9⟩
        obtain ⟨A2, c2, rfl⟩ := Kd.S_slice hS
        obtain ⟨A3, c3, rfl⟩ := Kd.R_slice hR
        have hk9 := HK8.out.below hb9
        have HK9 := Lib.hid hk9; clear hk9 hb9 hS hR
        go_wp2_with fail
        go_ret
        exact ⟨rfl, (HK9.out.alloc _).alloc _⟩
      | true =>
        obtain ⟨kn, hn⟩ := new4_yes root 0 false (by omega) hnb
        have hl1 := HLOp.out
        have hl2 := HLOq.out
        rw [hnb, if_pos rfl] at hl1
        rw [HNQ.out, hnb, if_pos rfl] at hl2
        subst hl1 hl2
        have hT0 := HTp.out hnb
        have hT1 := HTq.out (HNQ.out.trans hnb)
        have HT0 := Lib.hid hT0; clear hT0
        have HT1 := Lib.hid hT1; clear hT1
        have HNB := Lib.hid hnb; clear hnb
        go_wp2_with fail
        refine (enfiladeref20_New.calls kn root 0 false 0 false [⟨root, 0, []⟩] [] 0 (-1) ⟨#[]⟩ _ hn).mono ?_
        clear hn
        rintro e w9 ⟨v2, v3, rfl, hS, hR, hb9⟩
        obtain ⟨A2, c2, rfl⟩ := Kd.S_slice hS
        obtain ⟨A3, c3, rfl⟩ := Kd.R_slice hR
        have hk9 := HK8.out.below hb9
        have HK9 := Lib.hid hk9; clear hk9
        have hk69 := HK68.out.below hb9
        have HK69 := Lib.hid hk69; clear hk69
        have hx9 := (hb9.block _ (blk_lt HX8.out)).trans HX8.out
        have hf9 := (hb9.block _ (blk_lt HB8.out)).trans HB8.out
        have hV9 := Kd.V_below HV8.out hb9
        clear hS hR hb9
        have hxl9 := blk_lt hx9
        have hfl9 := blk_lt hf9
        have g1 := (blk_cell hf9 1).trans rfl
        have g2 := (blk_cell hf9 2).trans rfl
        have HX9 := Lib.hid hx9; clear hx9
        have HF9 := Lib.hid hf9; clear hf9
        have HV9 := Lib.hid hV9; clear hV9
        cases hk2 : ((askM l root).1 == 2) with
        | false =>
          have hne : ¬ (askM l root).1 = 2 := by simpa using hk2
          have e1 := tells_root_not HT0.out hne
          have e2 := tells_root_not HT1.out hne
          subst e1 e2
          have hk3 : ((askM l root).1 != 2) = true := by rw [bne_iff_ne]; exact hne
          clear hne
          go_wp2_with fail
          go_ret
          exact ⟨rfl, (HK9.out.alloc _).alloc _⟩
        | true =>
          have he : (askM l root).1 = 2 := by simpa using hk2
          have e1 := tells_zero HT0.out he
          obtain ⟨kids1, e2, hT2⟩ := tells_one HT1.out he
          subst e1 e2
          have hk3 : ((askM l root).1 != 2) = false := by rw [bne_eq_false_iff_eq]; exact he
          have HT2 := Lib.hid hT2; clear hT2
          clear he
          go_wp2_with fail
          have hk10 := (HK9.out.alloc (.cells #[.int .i64 0, .bool false, .slice A2 1 c2, .slice A3 0 c3] 47)).alloc (.cells #[.int .i64 0, .int .i64 (-1), .string ⟨#[]⟩] 49)
          have hk610 := (HK69.out.alloc (.cells #[.int .i64 0, .bool false, .slice A2 1 c2, .slice A3 0 c3] 47)).alloc (.cells #[.int .i64 0, .int .i64 (-1), .string ⟨#[]⟩] 49)
          have hx10 := (Below.heap_alloc (w9.alloc (.cells #[.int .i64 0, .bool false, .slice A2 1 c2, .slice A3 0 c3] 47)) (.cells #[.int .i64 0, .int .i64 (-1), .string ⟨#[]⟩] 49) _ (by rw [World.size_alloc]; omega)).trans ((Below.heap_alloc w9 (.cells #[.int .i64 0, .bool false, .slice A2 1 c2, .slice A3 0 c3] 47) _ hxl9).trans HX9.out)
          have hf10 := (Below.heap_alloc (w9.alloc (.cells #[.int .i64 0, .bool false, .slice A2 1 c2, .slice A3 0 c3] 47)) (.cells #[.int .i64 0, .int .i64 (-1), .string ⟨#[]⟩] 49) _ (by rw [World.size_alloc]; omega)).trans ((Below.heap_alloc w9 (.cells #[.int .i64 0, .bool false, .slice A2 1 c2, .slice A3 0 c3] 47) _ hfl9).trans HF9.out)
          have hV10 := Kd.V_alloc (Kd.V_alloc HV9.out (.cells #[.int .i64 0, .bool false, .slice A2 1 c2, .slice A3 0 c3] 47)) (.cells #[.int .i64 0, .int .i64 (-1), .string ⟨#[]⟩] 49)
          clear a0 g1 g2 hxl9 hfl9
          generalize ((w9.alloc (.cells #[.int .i64 0, .bool false, .slice A2 1 c2, .slice A3 0 c3] 47)).alloc (.cells #[.int .i64 0, .int .i64 (-1), .string ⟨#[]⟩] 49)) = w10 at *
          obtain ⟨bp, op, hAp, hcp⟩ := step_cells FRp.out (by simp)
          obtain ⟨bq, oq, hAq, hcq⟩ := step_cells FRq.out (by simp)
          have HCQ := Lib.hid hcq
          obtain ⟨_, _, e0, _, _, _, _⟩ := hcp 0 (by simp)
          obtain ⟨_, _, f0, _, _, _, _⟩ := hcq 0 (by simp)
          clear hcp hcq
          subst hAp hAq
          have e0 := cell_keep e0 hk610
          have f0 := cell_keep f0 hk610
          simp only [Nat.zero_mul, Nat.add_zero, List.getElem_cons_zero] at e0 f0
          have a0 := (blk_cell hx10 0).trans rfl
          have HX10 := Lib.hid hx10; clear hx10
          have HF10 := Lib.hid hf10; clear hf10
          have HV10 := Lib.hid hV10; clear hV10
          have HK10 := Lib.hid hk10; clear hk10
          have HK610 := Lib.hid hk610; clear hk610
          refine start_ (S := (fun w' : World => Below w10.heap.size w10 w')) (ds := [25]) #[false, false, false, false, false, false, false, false, false, false, false, false, false, false, false, false, false, false, false, false, false, false, false, false, false, false] rfl rfl rfl (below_drew (Below.refl _ _)) (fun hHeld => ?_)
          refine take_ (i := 0) (oi := { dst := some 68, op := Go.Op.move (Go.Operand.tmp 5), type := 27, pos := "law.go:184", after := #[], guard := none }) (v := ?v0_n) #[true, false, false, false, false, false, false, false, false, false, false, false, false, false, false, false, false, false, false, false, false, false, false, false, false, false] rfl rfl (by kernel_rfl) (fun _ _ _ h => h) (Or.inl ⟨by rfl, ?hy0_n⟩) hHeld rfl ?rest0_n
          case hy0_n => (intro w hSw; have e0' := pw_cell_below hSw e0; have f0' := pw_cell_below hSw f0; have a0' := pw_cell_below hSw a0; clear hSw; go_simp; (first | done | with_reducible rfl | omega))
          (try simp only [Act.put, List.setIfInBounds_toArray, List.set_cons_zero, List.set_cons_succ])
          refine take_ (i := 1) (oi := { dst := some 69, op := Go.Op.call { callee := Go.Callee.builtin Go.Builtin.len, args := #[Go.Operand.tmp 68], argTypes := #[27] }, type := 3, pos := "law.go:184", after := #[{ on := 0, ground := Go.Ground.data }], guard := none }) (v := ?v1_n) #[true, true, false, false, false, false, false, false, false, false, false, false, false, false, false, false, false, false, false, false, false, false, false, false, false, false] rfl rfl (by kernel_rfl) (fun _ _ _ h => h) (Or.inl ⟨by rfl, ?hy1_n⟩) hHeld rfl ?rest1_n
          case hy1_n => (intro w hSw; have e0' := pw_cell_below hSw e0; have f0' := pw_cell_below hSw f0; have a0' := pw_cell_below hSw a0; clear hSw; go_simp; (first | done | with_reducible rfl | omega))
          (try simp only [Act.put, List.setIfInBounds_toArray, List.set_cons_zero, List.set_cons_succ])
          refine take_ (i := 2) (oi := { dst := some 70, op := Go.Op.binOp Go.BinOp.neq 3 (Go.Operand.tmp 69) (Go.Operand.const (Go.Value.int Go.IntKind.i64 1)) 3, type := 4, pos := "law.go:184", after := #[{ on := 1, ground := Go.Ground.data }], guard := none }) (v := .bool false) #[true, true, true, false, false, false, false, false, false, false, false, false, false, false, false, false, false, false, false, false, false, false, false, false, false, false] rfl rfl (by kernel_rfl) (fun _ _ _ h => h) (Or.inl ⟨by rfl, ?hy2_n⟩) hHeld rfl ?rest2_n
          case hy2_n => (intro w hSw; have e0' := pw_cell_below hSw e0; have f0' := pw_cell_below hSw f0; have a0' := pw_cell_below hSw a0; clear hSw; go_simp; (first | done | with_reducible rfl | omega))
          (try simp only [Act.put, List.setIfInBounds_toArray, List.set_cons_zero, List.set_cons_succ])
          refine take_ (i := 3) (oi := { dst := some 71, op := Go.Op.move (Go.Operand.tmp 70), type := 4, pos := "law.go:184", after := #[{ on := 2, ground := Go.Ground.data }], guard := none }) (v := .bool false) #[true, true, true, true, false, false, false, false, false, false, false, false, false, false, false, false, false, false, false, false, false, false, false, false, false, false] rfl rfl (by kernel_rfl) (fun _ _ _ h => h) (Or.inl ⟨by rfl, ?hy3_n⟩) hHeld rfl ?rest3_n
          case hy3_n => (intro w hSw; have e0' := pw_cell_below hSw e0; have f0' := pw_cell_below hSw f0; have a0' := pw_cell_below hSw a0; clear hSw; go_simp; (first | done | with_reducible rfl | omega))
          (try simp only [Act.put, List.setIfInBounds_toArray, List.set_cons_zero, List.set_cons_succ])
          refine take_ (i := 4) (oi := { dst := some 72, op := Go.Op.move (Go.Operand.tmp 5), type := 27, pos := "law.go:184", after := #[{ on := 3, ground := Go.Ground.guard }], guard := some (3, false) }) (v := ?v4_n) #[true, true, true, true, true, false, false, false, false, false, false, false, false, false, false, false, false, false, false, false, false, false, false, false, false, false] rfl rfl (by kernel_rfl) (fun _ _ _ h => h) (Or.inl ⟨by rfl, ?hy4_n⟩) hHeld rfl ?rest4_n
          case hy4_n => (intro w hSw; have e0' := pw_cell_below hSw e0; have f0' := pw_cell_below hSw f0; have a0' := pw_cell_below hSw a0; clear hSw; go_simp; (first | done | with_reducible rfl | omega))
          (try simp only [Act.put, List.setIfInBounds_toArray, List.set_cons_zero, List.set_cons_succ])
          refine take_ (i := 5) (oi := { dst := some 73, op := Go.Op.indexAddr 27 (Go.Operand.tmp 72) (Go.Operand.const (Go.Value.int Go.IntKind.i64 0)), type := 0, pos := "law.go:184", after := #[{ on := 4, ground := Go.Ground.data }, { on := 3, ground := Go.Ground.guard }], guard := some (3, false) }) (v := ?v5_n) #[true, true, true, true, true, true, false, false, false, false, false, false, false, false, false, false, false, false, false, false, false, false, false, false, false, false] rfl rfl (by kernel_rfl) (fun _ _ _ h => h) (Or.inl ⟨by rfl, ?hy5_n⟩) hHeld rfl ?rest5_n
          case hy5_n => (intro w hSw; have e0' := pw_cell_below hSw e0; have f0' := pw_cell_below hSw f0; have a0' := pw_cell_below hSw a0; clear hSw; go_simp; (first | done | with_reducible rfl | omega))
          (try simp only [Act.put, List.setIfInBounds_toArray, List.set_cons_zero, List.set_cons_succ])
          refine take_ (i := 6) (oi := { dst := some 74, op := Go.Op.fieldAddr 36 (Go.Operand.tmp 73) 0, type := 0, pos := "law.go:184", after := #[{ on := 5, ground := Go.Ground.data }, { on := 3, ground := Go.Ground.guard }], guard := some (3, false) }) (v := ?v6_n) #[true, true, true, true, true, true, true, false, false, false, false, false, false, false, false, false, false, false, false, false, false, false, false, false, false, false] rfl rfl (by kernel_rfl) (fun _ _ _ h => h) (Or.inl ⟨by rfl, ?hy6_n⟩) hHeld rfl ?rest6_n
          case hy6_n => (intro w hSw; have e0' := pw_cell_below hSw e0; have f0' := pw_cell_below hSw f0; have a0' := pw_cell_below hSw a0; clear hSw; go_simp; (first | done | with_reducible rfl | omega))
          (try simp only [Act.put, List.setIfInBounds_toArray, List.set_cons_zero, List.set_cons_succ])
          refine take_ (i := 7) (oi := { dst := some 75, op := Go.Op.load 9 (Go.Operand.tmp 74), type := 9, pos := "law.go:184", after := #[{ on := 6, ground := Go.Ground.data }, { on := 3, ground := Go.Ground.guard }], guard := some (3, false) }) (v := ?v7_n) #[true, true, true, true, true, true, true, true, false, false, false, false, false, false, false, false, false, false, false, false, false, false, false, false, false, false] rfl rfl (by kernel_rfl) (fun _ _ _ h => h) (Or.inl ⟨by rfl, ?hy7_n⟩) hHeld rfl ?rest7_n
          case hy7_n => (intro w hSw; have e0' := pw_cell_below hSw e0; have f0' := pw_cell_below hSw f0; have a0' := pw_cell_below hSw a0; clear hSw; go_simp; (first | done | with_reducible rfl | omega))
          (try simp only [Act.put, List.setIfInBounds_toArray, List.set_cons_zero, List.set_cons_succ])
          refine take_ (i := 8) (oi := { dst := some 76, op := Go.Op.fieldAddr 24 (Go.Operand.tmp 3) 0, type := 0, pos := "law.go:184", after := #[{ on := 3, ground := Go.Ground.guard }], guard := some (3, false) }) (v := ?v8_n) #[true, true, true, true, true, true, true, true, true, false, false, false, false, false, false, false, false, false, false, false, false, false, false, false, false, false] rfl rfl (by kernel_rfl) (fun _ _ _ h => h) (Or.inl ⟨by rfl, ?hy8_n⟩) hHeld rfl ?rest8_n
          case hy8_n => (intro w hSw; have e0' := pw_cell_below hSw e0; have f0' := pw_cell_below hSw f0; have a0' := pw_cell_below hSw a0; clear hSw; go_simp; (first | done | with_reducible rfl | omega))
          (try simp only [Act.put, List.setIfInBounds_toArray, List.set_cons_zero, List.set_cons_succ])
          refine take_ (i := 9) (oi := { dst := some 77, op := Go.Op.load 9 (Go.Operand.tmp 76), type := 9, pos := "law.go:184", after := #[{ on := 8, ground := Go.Ground.data }, { on := 3, ground := Go.Ground.guard }], guard := some (3, false) }) (v := ?v9_n) #[true, true, true, true, true, true, true, true, true, true, false, false, false, false, false, false, false, false, false, false, false, false, false, false, false, false] rfl rfl (by kernel_rfl) (fun _ _ _ h => h) (Or.inl ⟨by rfl, ?hy9_n⟩) hHeld rfl ?rest9_n
          case hy9_n => (intro w hSw; have e0' := pw_cell_below hSw e0; have f0' := pw_cell_below hSw f0; have a0' := pw_cell_below hSw a0; clear hSw; go_simp; (first | done | with_reducible rfl | omega))
          (try simp only [Act.put, List.setIfInBounds_toArray, List.set_cons_zero, List.set_cons_succ])
          refine take_ (i := 10) (oi := { dst := some 78, op := Go.Op.binOp Go.BinOp.neq 9 (Go.Operand.tmp 75) (Go.Operand.tmp 77) 9, type := 4, pos := "law.go:184", after := #[{ on := 7, ground := Go.Ground.data }, { on := 9, ground := Go.Ground.data }, { on := 3, ground := Go.Ground.guard }], guard := some (3, false) }) (v := .bool false) #[true, true, true, true, true, true, true, true, true, true, true, false, false, false, false, false, false, false, false, false, false, false, false, false, false, false] rfl rfl (by kernel_rfl) (fun _ _ _ h => h) (Or.inl ⟨by rfl, ?hy10_n⟩) hHeld rfl ?rest10_n
          case hy10_n => (intro w hSw; have e0' := pw_cell_below hSw e0; have f0' := pw_cell_below hSw f0; have a0' := pw_cell_below hSw a0; clear hSw; go_simp; (first | done | with_reducible rfl | omega))
          (try simp only [Act.put, List.setIfInBounds_toArray, List.set_cons_zero, List.set_cons_succ])
          refine take_ (i := 11) (oi := { dst := some 79, op := Go.Op.pick (Go.Operand.tmp 71) (Go.Operand.const (Go.Value.bool true)) (Go.Operand.tmp 78), type := 4, pos := "law.go:184", after := #[{ on := 3, ground := Go.Ground.data }, { on := 10, ground := Go.Ground.data }], guard := none }) (v := .bool false) #[true, true, true, true, true, true, true, true, true, true, true, true, false, false, false, false, false, false, false, false, false, false, false, false, false, false] rfl rfl (by kernel_rfl) (fun _ _ _ h => h) (Or.inl ⟨by rfl, ?hy11_n⟩) hHeld rfl ?rest11_n
          case hy11_n => (intro w hSw; have e0' := pw_cell_below hSw e0; have f0' := pw_cell_below hSw f0; have a0' := pw_cell_below hSw a0; clear hSw; go_simp; (first | done | with_reducible rfl | omega))
          (try simp only [Act.put, List.setIfInBounds_toArray, List.set_cons_zero, List.set_cons_succ])
          refine take_ (i := 12) (oi := { dst := some 80, op := Go.Op.move (Go.Operand.tmp 79), type := 4, pos := "law.go:184", after := #[{ on := 11, ground := Go.Ground.data }, { on := 3, ground := Go.Ground.chain }], guard := none }) (v := .bool false) #[true, true, true, true, true, true, true, true, true, true, true, true, true, false, false, false, false, false, false, false, false, false, false, false, false, false] rfl rfl (by kernel_rfl) (fun _ _ _ h => h) (Or.inl ⟨by rfl, ?hy12_n⟩) hHeld rfl ?rest12_n
          case hy12_n => (intro w hSw; have e0' := pw_cell_below hSw e0; have f0' := pw_cell_below hSw f0; have a0' := pw_cell_below hSw a0; clear hSw; go_simp; (first | done | with_reducible rfl | omega))
          (try simp only [Act.put, List.setIfInBounds_toArray, List.set_cons_zero, List.set_cons_succ])
          refine take_ (i := 13) (oi := { dst := some 81, op := Go.Op.move (Go.Operand.tmp 6), type := 27, pos := "law.go:184", after := #[{ on := 12, ground := Go.Ground.guard }], guard := some (12, false) }) (v := ?v13_n) #[true, true, true, true, true, true, true, true, true, true, true, true, true, true, false, false, false, false, false, false, false, false, false, false, false, false] rfl rfl (by kernel_rfl) (fun _ _ _ h => h) (Or.inl ⟨by rfl, ?hy13_n⟩) hHeld rfl ?rest13_n
          case hy13_n => (intro w hSw; have e0' := pw_cell_below hSw e0; have f0' := pw_cell_below hSw f0; have a0' := pw_cell_below hSw a0; clear hSw; go_simp; (first | done | with_reducible rfl | omega))
          (try simp only [Act.put, List.setIfInBounds_toArray, List.set_cons_zero, List.set_cons_succ])
          refine take_ (i := 14) (oi := { dst := some 82, op := Go.Op.call { callee := Go.Callee.builtin Go.Builtin.len, args := #[Go.Operand.tmp 81], argTypes := #[27] }, type := 3, pos := "law.go:184", after := #[{ on := 13, ground := Go.Ground.data }, { on := 12, ground := Go.Ground.guard }], guard := some (12, false) }) (v := ?v14_n) #[true, true, true, true, true, true, true, true, true, true, true, true, true, true, true, false, false, false, false, false, false, false, false, false, false, false] rfl rfl (by kernel_rfl) (fun _ _ _ h => h) (Or.inl ⟨by rfl, ?hy14_n⟩) hHeld rfl ?rest14_n
          case hy14_n => (intro w hSw; have e0' := pw_cell_below hSw e0; have f0' := pw_cell_below hSw f0; have a0' := pw_cell_below hSw a0; clear hSw; go_simp; (first | done | with_reducible rfl | omega))
          (try simp only [Act.put, List.setIfInBounds_toArray, List.set_cons_zero, List.set_cons_succ])
          refine take_ (i := 15) (oi := { dst := some 83, op := Go.Op.binOp Go.BinOp.eql 3 (Go.Operand.tmp 82) (Go.Operand.const (Go.Value.int Go.IntKind.i64 0)) 3, type := 4, pos := "law.go:184", after := #[{ on := 14, ground := Go.Ground.data }, { on := 12, ground := Go.Ground.guard }], guard := some (12, false) }) (v := .bool false) #[true, true, true, true, true, true, true, true, true, true, true, true, true, true, true, true, false, false, false, false, false, false, false, false, false, false] rfl rfl (by kernel_rfl) (fun _ _ _ h => h) (Or.inl ⟨by rfl, ?hy15_n⟩) hHeld rfl ?rest15_n
          case hy15_n => (intro w hSw; have e0' := pw_cell_below hSw e0; have f0' := pw_cell_below hSw f0; have a0' := pw_cell_below hSw a0; clear hSw; go_simp; (first | done | with_reducible rfl | omega))
          (try simp only [Act.put, List.setIfInBounds_toArray, List.set_cons_zero, List.set_cons_succ])
          refine take_ (i := 16) (oi := { dst := some 84, op := Go.Op.pick (Go.Operand.tmp 80) (Go.Operand.const (Go.Value.bool true)) (Go.Operand.tmp 83), type := 4, pos := "law.go:184", after := #[{ on := 12, ground := Go.Ground.data }, { on := 15, ground := Go.Ground.data }], guard := none }) (v := .bool false) #[true, true, true, true, true, true, true, true, true, true, true, true, true, true, true, true, true, false, false, false, false, false, false, false, false, false] rfl rfl (by kernel_rfl) (fun _ _ _ h => h) (Or.inl ⟨by rfl, ?hy16_n⟩) hHeld rfl ?rest16_n
          case hy16_n => (intro w hSw; have e0' := pw_cell_below hSw e0; have f0' := pw_cell_below hSw f0; have a0' := pw_cell_below hSw a0; clear hSw; go_simp; (first | done | with_reducible rfl | omega))
          (try simp only [Act.put, List.setIfInBounds_toArray, List.set_cons_zero, List.set_cons_succ])
          refine take_ (i := 17) (oi := { dst := some 85, op := Go.Op.move (Go.Operand.tmp 84), type := 4, pos := "law.go:184", after := #[{ on := 16, ground := Go.Ground.data }, { on := 12, ground := Go.Ground.chain }], guard := none }) (v := .bool false) #[true, true, true, true, true, true, true, true, true, true, true, true, true, true, true, true, true, true, false, false, false, false, false, false, false, false] rfl rfl (by kernel_rfl) (fun _ _ _ h => h) (Or.inl ⟨by rfl, ?hy17_n⟩) hHeld rfl ?rest17_n
          case hy17_n => (intro w hSw; have e0' := pw_cell_below hSw e0; have f0' := pw_cell_below hSw f0; have a0' := pw_cell_below hSw a0; clear hSw; go_simp; (first | done | with_reducible rfl | omega))
          (try simp only [Act.put, List.setIfInBounds_toArray, List.set_cons_zero, List.set_cons_succ])
          refine take_ (i := 18) (oi := { dst := some 86, op := Go.Op.move (Go.Operand.tmp 6), type := 27, pos := "law.go:184", after := #[{ on := 17, ground := Go.Ground.guard }], guard := some (17, false) }) (v := ?v18_n) #[true, true, true, true, true, true, true, true, true, true, true, true, true, true, true, true, true, true, true, false, false, false, false, false, false, false] rfl rfl (by kernel_rfl) (fun _ _ _ h => h) (Or.inl ⟨by rfl, ?hy18_n⟩) hHeld rfl ?rest18_n
          case hy18_n => (intro w hSw; have e0' := pw_cell_below hSw e0; have f0' := pw_cell_below hSw f0; have a0' := pw_cell_below hSw a0; clear hSw; go_simp; (first | done | with_reducible rfl | omega))
          (try simp only [Act.put, List.setIfInBounds_toArray, List.set_cons_zero, List.set_cons_succ])
          refine take_ (i := 19) (oi := { dst := some 87, op := Go.Op.indexAddr 27 (Go.Operand.tmp 86) (Go.Operand.const (Go.Value.int Go.IntKind.i64 0)), type := 0, pos := "law.go:184", after := #[{ on := 18, ground := Go.Ground.data }, { on := 17, ground := Go.Ground.guard }], guard := some (17, false) }) (v := ?v19_n) #[true, true, true, true, true, true, true, true, true, true, true, true, true, true, true, true, true, true, true, true, false, false, false, false, false, false] rfl rfl (by kernel_rfl) (fun _ _ _ h => h) (Or.inl ⟨by rfl, ?hy19_n⟩) hHeld rfl ?rest19_n
          case hy19_n => (intro w hSw; have e0' := pw_cell_below hSw e0; have f0' := pw_cell_below hSw f0; have a0' := pw_cell_below hSw a0; clear hSw; go_simp; (first | done | with_reducible rfl | omega))
          (try simp only [Act.put, List.setIfInBounds_toArray, List.set_cons_zero, List.set_cons_succ])
          refine take_ (i := 20) (oi := { dst := some 88, op := Go.Op.fieldAddr 36 (Go.Operand.tmp 87) 0, type := 0, pos := "law.go:184", after := #[{ on := 19, ground := Go.Ground.data }, { on := 17, ground := Go.Ground.guard }], guard := some (17, false) }) (v := ?v20_n) #[true, true, true, true, true, true, true, true, true, true, true, true, true, true, true, true, true, true, true, true, true, false, false, false, false, false] rfl rfl (by kernel_rfl) (fun _ _ _ h => h) (Or.inl ⟨by rfl, ?hy20_n⟩) hHeld rfl ?rest20_n
          case hy20_n => (intro w hSw; have e0' := pw_cell_below hSw e0; have f0' := pw_cell_below hSw f0; have a0' := pw_cell_below hSw a0; clear hSw; go_simp; (first | done | with_reducible rfl | omega))
          (try simp only [Act.put, List.setIfInBounds_toArray, List.set_cons_zero, List.set_cons_succ])
          refine take_ (i := 21) (oi := { dst := some 89, op := Go.Op.load 9 (Go.Operand.tmp 88), type := 9, pos := "law.go:184", after := #[{ on := 20, ground := Go.Ground.data }, { on := 17, ground := Go.Ground.guard }], guard := some (17, false) }) (v := ?v21_n) #[true, true, true, true, true, true, true, true, true, true, true, true, true, true, true, true, true, true, true, true, true, true, false, false, false, false] rfl rfl (by kernel_rfl) (fun _ _ _ h => h) (Or.inl ⟨by rfl, ?hy21_n⟩) hHeld rfl ?rest21_n
          case hy21_n => (intro w hSw; have e0' := pw_cell_below hSw e0; have f0' := pw_cell_below hSw f0; have a0' := pw_cell_below hSw a0; clear hSw; go_simp; (first | done | with_reducible rfl | omega))
          (try simp only [Act.put, List.setIfInBounds_toArray, List.set_cons_zero, List.set_cons_succ])
          refine take_ (i := 22) (oi := { dst := some 90, op := Go.Op.fieldAddr 24 (Go.Operand.tmp 3) 0, type := 0, pos := "law.go:184", after := #[{ on := 17, ground := Go.Ground.guard }], guard := some (17, false) }) (v := ?v22_n) #[true, true, true, true, true, true, true, true, true, true, true, true, true, true, true, true, true, true, true, true, true, true, true, false, false, false] rfl rfl (by kernel_rfl) (fun _ _ _ h => h) (Or.inl ⟨by rfl, ?hy22_n⟩) hHeld rfl ?rest22_n
          case hy22_n => (intro w hSw; have e0' := pw_cell_below hSw e0; have f0' := pw_cell_below hSw f0; have a0' := pw_cell_below hSw a0; clear hSw; go_simp; (first | done | with_reducible rfl | omega))
          (try simp only [Act.put, List.setIfInBounds_toArray, List.set_cons_zero, List.set_cons_succ])
          refine take_ (i := 23) (oi := { dst := some 91, op := Go.Op.load 9 (Go.Operand.tmp 90), type := 9, pos := "law.go:184", after := #[{ on := 22, ground := Go.Ground.data }, { on := 17, ground := Go.Ground.guard }], guard := some (17, false) }) (v := ?v23_n) #[true, true, true, true, true, true, true, true, true, true, true, true, true, true, true, true, true, true, true, true, true, true, true, true, false, false] rfl rfl (by kernel_rfl) (fun _ _ _ h => h) (Or.inl ⟨by rfl, ?hy23_n⟩) hHeld rfl ?rest23_n
          case hy23_n => (intro w hSw; have e0' := pw_cell_below hSw e0; have f0' := pw_cell_below hSw f0; have a0' := pw_cell_below hSw a0; clear hSw; go_simp; (first | done | with_reducible rfl | omega))
          (try simp only [Act.put, List.setIfInBounds_toArray, List.set_cons_zero, List.set_cons_succ])
          refine take_ (i := 24) (oi := { dst := some 92, op := Go.Op.binOp Go.BinOp.neq 9 (Go.Operand.tmp 89) (Go.Operand.tmp 91) 9, type := 4, pos := "law.go:184", after := #[{ on := 21, ground := Go.Ground.data }, { on := 23, ground := Go.Ground.data }, { on := 17, ground := Go.Ground.guard }], guard := some (17, false) }) (v := .bool false) #[true, true, true, true, true, true, true, true, true, true, true, true, true, true, true, true, true, true, true, true, true, true, true, true, true, false] rfl rfl (by kernel_rfl) (fun _ _ _ h => h) (Or.inl ⟨by rfl, ?hy24_n⟩) hHeld rfl ?rest24_n
          case hy24_n => (intro w hSw; have e0' := pw_cell_below hSw e0; have f0' := pw_cell_below hSw f0; have a0' := pw_cell_below hSw a0; clear hSw; go_simp; (first | done | with_reducible rfl | omega))
          (try simp only [Act.put, List.setIfInBounds_toArray, List.set_cons_zero, List.set_cons_succ])
          refine last_ (i := 25) (oi := { dst := some 93, op := Go.Op.pick (Go.Operand.tmp 85) (Go.Operand.const (Go.Value.bool true)) (Go.Operand.tmp 92), type := 4, pos := "law.go:184", after := #[{ on := 17, ground := Go.Ground.data }, { on := 24, ground := Go.Ground.data }], guard := none }) #[true, true, true, true, true, true, true, true, true, true, true, true, true, true, true, true, true, true, true, true, true, true, true, true, true, true] rfl rfl (by kernel_rfl) (by decide) (fun K hK => ?_)
          go_simp
          refine hK.out _ _ ?_
          clear hK K
          refine done_ (by kernel_rfl) ?_
          have hmk : ∀ w : World, (Instr.makeMap 33 none).run Try.prog w = .ok (.map (some w.heap.size)) (w.alloc (.map #[] 0)) := fun w => by rfl
          have hxl10 := blk_lt HX10.out
          have hfl10 := blk_lt HF10.out
          obtain ⟨w11, hput, hm11, hg11⟩ := (SMap.made w10.drew).put root (show root.size ≤ maxLen by unfold maxLen; omega) 1 (wf_i64 (by decide) (by decide)) (by unfold maxLen; omega)
          have hput : (Instr.mapUpdate 33 (.map (some w10.heap.size)) (.string root) (.int .i64 1)).run Try.prog (w10.alloc (.map #[] 0)).drew = .ok () w11 := hput
          have hm11 : SMap w11 w10.heap.size 1 (cameF [root]) := by
            have hc := cameF_cons [] root
            have hz : cameF [] = fun _ => 0 := rfl
            rw [hz] at hc
            rw [← hc]
            exact hm11
          have hk11 : Kept w10 w11 (fun _ => False) := Kept.of_grown hg11 ((Kept.refl w10 _).drew.alloc _) (fun k hk => .inr (by injection hk with hk; have : w10.heap.size = k := hk; omega))
          have hf11 := (hk11.2 _ hfl10 (fun h => h)).trans HF10.out
          have g2 := (blk_cell hf11 2).trans rfl
          have HM11 := Lib.hid hm11; clear hm11
          have HK11 := Lib.hid hk11; clear hk11
          have HF11 := Lib.hid hf11; clear hf11
          have HG11 := Lib.hid hg11; clear hg11
          clear e0 f0 hHeld
          go_wp2_with fail
          clear hmk hput g2 a0
          obtain ⟨fc, hcells, hfs⟩ := child_cells (Kd.V_F HV10.out)
          have KC := Lib.hid hcells; clear hcells
          have KS := Lib.hid hfs; clear hfs
          have hkl := (fewOk_of HF.out root).1
          have hk300 : kids1.length ≤ 300 := by have h := hlolq; simp only [List.length_cons] at h; omega
          go_loopg [10, 101] (askM l root).2.length (fun kq t10 t101 wr => ∃ (j k : Nat) (L : List ByteArray) (n : Nat), j ≤ (askM l root).2.length ∧ t101 = .int .i64 (j : Int) ∧ t10 = .int .i64 (k : Int) ∧ kq = (askM l root).2.length - j ∧ 1 ≤ k ∧ k ≤ kids1.length + 1 ∧ SMap wr w10.heap.size n (cameF L) ∧ n ≤ j + 1 ∧ L.length ≤ j + 1 ∧
            Hid (Tells (askM l) 1 sug ((((askM l root).2.drop j).filter (counts sug)).map (stepOf 0)) L ((⟨root, 0, []⟩ :: kids1 : List S38).drop k)) ∧ Kept w10 wr (fun _ => False))
          case atStart => exact ⟨0, 1, [root], 1, Nat.zero_le _, rfl, rfl, rfl, Nat.le_refl _, by omega, HM11.out, Nat.le_refl _, Nat.le_refl _, HT2, HK11.out⟩
          case round =>
            obtain ⟨j, k, L, n, hjl, rfl, rfl, rfl, hk1, hkm, hM, hn, hLn, HT, hK⟩ := hrel
            have HM := Lib.hid hM; clear hM
            have HKR := Lib.hid hK; clear hK
            by_cases hj : j < (askM l root).2.length
            · obtain ⟨bk, offk, hA, hok, hcc⟩ := KC.out (by omega)
              obtain ⟨c0, c1, c2', c3', c4'⟩ := hcc j hj
              obtain ⟨A9, c9, hfi, _, _⟩ := KS.out j hj
              rw [hfi] at c0 c1 c2' c3' c4'
              have hds := List.drop_eq_getElem_cons hj
              have hT := HT.out
              rw [hds] at hT
              clear HT hds
              have hgc := (fewF_of HF.out).each root (askM l root).2[j] (List.getElem_mem hj)
              have hkey : (askM l root).2[j].f0.size ≤ maxLen := Nat.le_trans hgc.1 (by decide)
              have HKEY := Lib.hid hkey; clear hkey hgc
              generalize hch : (askM l root).2[j] = ch at *
              have HCH := Lib.hid hch; clear hch
              have HT := Lib.hid hT; clear hT
              have c0 : wr.cell? ⟨bk, offk + j * 5, none⟩ = some (.string ch.f0) := cell_keep c0 HKR.out
              have c1 : wr.cell? ⟨bk, offk + j * 5 + 1, none⟩ = some (.string ch.f1) := cell_keep c1 HKR.out
              have c2' : wr.cell? ⟨bk, offk + j * 5 + 2, none⟩ = some (.slice A9 ch.f2.length c9) := cell_keep c2' HKR.out
              have c3' : wr.cell? ⟨bk, offk + j * 5 + 3, none⟩ = some (.bool ch.f3) := cell_keep c3' HKR.out
              have c4' : wr.cell? ⟨bk, offk + j * 5 + 4, none⟩ = some (.int .i64 ch.f4) := cell_keep c4' HKR.out
              subst hA
              clear hcc hfi hok
              have hxr := (HKR.out.2 _ (blk_lt HX10.out) (fun h => h)).trans HX10.out
              have hxlr := blk_lt hxr
              have x3 := (blk_cell hxr 3).trans rfl
              have HXR := Lib.hid hxr; clear hxr
              have hmb : SMap (wr.alloc (.cells #[.string ch.f0, .string ch.f1, .slice A9 ch.f2.length c9, .bool ch.f3, .int .i64 ch.f4] 44)) w10.heap.size n (cameF L) := HM.out.step (Below.heap_alloc _ _ _ HM.out.lt)
              have hlk := hmb.look ch.f0 HKEY.out
              have HMB := Lib.hid hmb; clear hmb
              by_cases hmem : memB L ch.f0 = true
              · have hcv : decide (0 < cameF L ch.f0) = true := decide_eq_true (cameF_pos.2 hmem)
                have HT3 : Hid (Tells (askM l) 1 sug ((((askM l root).2.drop (j + 1)).filter (counts sug)).map (stepOf 0)) L ((⟨root, 0, []⟩ :: kids1 : List S38).drop k)) := by
                  refine Lib.hid ?_
                  have hT := HT.out
                  by_cases hcn : counts sug ch = true
                  · rw [List.filter_cons_of_pos hcn, List.map_cons] at hT
                    exact tells_came hT hmem
                  · rw [List.filter_cons_of_neg hcn] at hT
                    exact hT
                have HCV := Lib.hid hmem; clear hmem
                generalize cameF L ch.f0 = cv at hlk hcv
                go_wp2_with fail
                go_roundg ((askM l root).2.length - (j + 1))
                case rel => exact ⟨j + 1, k, L, n, by omega, by go_num, rfl, rfl, by omega, by omega, HMB.out, by omega, by omega, Lib.hid HT3.out, HKR.out.alloc _⟩
                case measure => omega
              · have hcz : cameF L ch.f0 = 0 := by
                  have := (cameF_le L ch.f0).1
                  have h2 := mt cameF_pos.1 hmem
                  omega
                rw [hcz] at hlk
                have hmm : ¬ memB L ch.f0 = true := hmem
                have HME := Lib.hid hmm; clear hmem hmm
                have hsplit : counts sug ch = false ∧ sug = true ∧ ch.f3 = false ∨ counts sug ch = true ∧ (sug = false ∨ sug = true ∧ ch.f3 = true) := by
                  unfold counts
                  cases sug <;> cases ch.f3 <;> simp
                rcases hsplit with ⟨hcn, hsg, hf3⟩ | ⟨hcn, hsf⟩
                · have HT3 : Hid (Tells (askM l) 1 sug ((((askM l root).2.drop (j + 1)).filter (counts sug)).map (stepOf 0)) L ((⟨root, 0, []⟩ :: kids1 : List S38).drop k)) := by
                    refine Lib.hid ?_
                    have hT := HT.out
                    rw [List.filter_cons_of_neg (by rw [hcn]; decide)] at hT
                    exact hT
                  rw [hsg] at x3
                  rw [hf3] at c3' hlk HMB
                  clear hcn hsg hf3
                  go_wp2_with fail
                  go_roundg ((askM l root).2.length - (j + 1))
                  case rel => exact ⟨j + 1, k, L, n, by omega, by go_num, rfl, rfl, by omega, by omega, HMB.out, by omega, by omega, Lib.hid HT3.out, HKR.out.alloc _⟩
                  case measure => omega
                · have hT := HT.out
                  rw [List.filter_cons_of_pos hcn, List.map_cons] at hT
                  clear HT
                  have HT := Lib.hid hT; clear hT hcn
                  obtain ⟨w12, hput, hm12, hg12⟩ := HMB.out.put ch.f0 HKEY.out 1 (wf_i64 (by decide) (by decide)) (by unfold maxLen; omega)
                  have hm12 : SMap w12 w10.heap.size (n + 1) (cameF (ch.f0 :: L)) := by
                    have hc := cameF_cons L ch.f0
                    rw [hcz] at hc
                    rw [← hc]
                    exact hm12
                  have hkb : Kept w10 w12 (fun _ => False) := Kept.of_grown hg12 (HKR.out.alloc _) (fun k hk => .inr (by injection hk with hk; omega))
                  have hbx := heap_alloc_new wr (.cells #[.string ch.f0, .string ch.f1, .slice A9 ch.f2.length c9, .bool ch.f3, .int .i64 ch.f4] 44)
                  have hne : wr.heap.size ≠ w10.heap.size := by have := HM.out.lt; omega
                  have hb12 := (hg12.block _ (blk_lt hbx) (fun e => hne (Option.some.inj e))).trans hbx
                  have r0 := (blk_cell hb12 0).trans rfl
                  have HB12 := Lib.hid hb12; clear hb12 hbx
                  have HM12 := Lib.hid hm12; clear hm12
                  have HK12 := Lib.hid hkb; clear hkb
                  have HG12 := Lib.hid hg12; clear hg12
                  have hV12 : Kd.V k41 41 w12 w12.heap.size ok (.slice A l.length c) l := Kd.V_kept HV.out (HK10.out.then_ HK12.out (fun _ h => h.elim)) (fun _ _ h => h)
                  have HV12 := Lib.hid hV12; clear hV12
                  obtain ⟨kb, rb, hkb⟩ := ask_f l ch.f0 (by have := few_len HF.out; omega)
                  have HKB := Lib.hid hkb; clear hkb
                  have hfl : ∀ (a b c : Value) (w : World), (Instr.field 41 (.agg #[a, b, c]) 1).run Try.prog w = .ok b w := fun _ _ _ _ => by kernel_rfl
                  rcases hsf with hsg | ⟨hsg, hf3⟩
                  · rw [hsg] at x3
                    try rw [hf3] at c3' hlk hput
                    try clear hf3
                    clear hsg
                    go_wp2_with fail
                    refine (enfiladeref20_Ask.calls kb ok A c l ch.f0 rb (askM l ch.f0).1 (askM l ch.f0).2 _ HV12.out HKB.out).mono ?_
                    rintro e w13 ⟨v13, rfl, hV13, hB13⟩
                    obtain ⟨A13, c13, rfl⟩ := Kd.V_slice hV13
                    have hk13 := HK12.out.below hB13
                    have hb13 := (hB13.block _ (blk_lt HB12.out)).trans HB12.out
                    have hm13 := HM12.out.step (hB13.block _ HM12.out.lt)
                    clear hV13 hB13 r0
                    have HK13 := Lib.hid hk13; clear hk13
                    have r0 := (blk_cell hb13 0).trans rfl
                    have HB13 := Lib.hid hb13; clear hb13
                    have HM13 := Lib.hid hm13; clear hm13
                    clear hlk hput c0 c1 c2' c3' c4' x3
                    cases hk0 : ((askM l ch.f0).1 == 0) with
                    | true =>
                      have hout := tells_wait HT.out HME.out (show (askM l ch.f0).1 = 0 from by simpa using hk0)
                      have hkn : k = kids1.length + 1 := by
                        have := congrArg List.length hout
                        rw [List.length_drop, List.length_cons, List.length_nil] at this
                        omega
                      clear hout
                      go_wp2_with fail
                      go_ret
                      exact ⟨ret_bool (by first | rfl | (rw [hkn]; simp)), HK10.out.then_ HK13.out (fun _ h => h.elim)⟩
                    | false =>
                      cases hk2 : ((askM l ch.f0).1 == 2) with
                      | false =>
                        have HT3 := Lib.hid (tells_skip HT.out HME.out (show ¬ (askM l ch.f0).1 = 0 from by simpa using hk0) (show ¬ (askM l ch.f0).1 = 2 from by simpa using hk2))
                        go_wp2_with fail
                        go_roundg ((askM l root).2.length - (j + 1))
                        case rel => exact ⟨j + 1, k, ch.f0 :: L, n + 1, by omega, by go_num, rfl, rfl, by omega, by omega, HM13.out, by omega, by simp only [List.length_cons]; omega, Lib.hid HT3.out, HK13.out⟩
                        case measure => omega
                      | true =>
                        obtain ⟨out2, ho2, hT3⟩ := kids_told HT.out HME.out (by simpa using hk2)
                        have hklt : k < kids1.length + 1 := by
                          have := congrArg List.length ho2
                          rw [List.length_drop, List.length_cons, List.length_cons] at this
                          omega
                        have hki : (k : Int) < (kids1.length : Int) + 1 := by omega
                        have hgk : (⟨root, 0, []⟩ :: kids1 : List S38)[k]'(by simpa using hklt) = stepOf 0 ch := by
                          have h1 := List.drop_eq_getElem_cons (l := (⟨root, 0, []⟩ :: kids1 : List S38)) (i := k) (by simpa using hklt)
                          rw [ho2] at h1
                          injection h1 with h1 _
                          exact h1.symm
                        have hdk : (⟨root, 0, []⟩ :: kids1 : List S38).drop (k + 1) = out2 := by
                          have h1 := List.drop_eq_getElem_cons (l := (⟨root, 0, []⟩ :: kids1 : List S38)) (i := k) (by simpa using hklt)
                          rw [ho2] at h1
                          injection h1 with _ h1
                          exact h1.symm
                        rw [← hdk] at hT3
                        have HT3 := Lib.hid hT3; clear hT3 hdk ho2
                        obtain ⟨_, _, f0, f1, _, _, _⟩ := HCQ.out k (by simpa using hklt)
                        rw [hgk] at f0 f1
                        clear hgk
                        have f0 := cell_keep (cell_keep f0 HK610.out) HK13.out
                        have f1 := cell_keep (cell_keep f1 HK610.out) HK13.out
                        have f0 : w13.cell? ⟨bq, oq + k * 3, none⟩ = some (.string ch.f0) := f0
                        have f1 : w13.cell? ⟨bq, oq + k * 3 + 1, none⟩ = some (.int .i64 1) := f1
                        go_wp2_with fail
                        refine start_ (S := (fun w' : World => Below w13.heap.size w13 w')) (ds := [21]) #[false, false, false, false, false, false, false, false, false, false, false, false, false, false, false, false, false, false, false, false, false, false] rfl rfl rfl (below_drew (Below.refl _ _)) (fun hHeld => ?_)
                        refine take_ (i := 0) (oi := { dst := some 137, op := Go.Op.move (Go.Operand.tmp 10), type := 3, pos := "law.go:198", after := #[], guard := none }) (v := ?v0_mx) #[true, false, false, false, false, false, false, false, false, false, false, false, false, false, false, false, false, false, false, false, false, false] rfl rfl (by kernel_rfl) (fun _ _ _ h => h) (Or.inl ⟨by rfl, ?hy0_mx⟩) hHeld rfl ?rest0_mx
                        case hy0_mx => (intro w hSw; have f0' := pw_cell_below hSw f0; have f1' := pw_cell_below hSw f1; have r0' := pw_cell_below hSw r0; clear hSw; go_simp; (first | done | with_reducible rfl | omega))
                        (try simp only [Act.put, List.setIfInBounds_toArray, List.set_cons_zero, List.set_cons_succ])
                        refine take_ (i := 1) (oi := { dst := some 138, op := Go.Op.move (Go.Operand.tmp 6), type := 27, pos := "law.go:198", after := #[], guard := none }) (v := ?v1_mx) #[true, true, false, false, false, false, false, false, false, false, false, false, false, false, false, false, false, false, false, false, false, false] rfl rfl (by kernel_rfl) (fun _ _ _ h => h) (Or.inl ⟨by rfl, ?hy1_mx⟩) hHeld rfl ?rest1_mx
                        case hy1_mx => (intro w hSw; have f0' := pw_cell_below hSw f0; have f1' := pw_cell_below hSw f1; have r0' := pw_cell_below hSw r0; clear hSw; go_simp; (first | done | with_reducible rfl | omega))
                        (try simp only [Act.put, List.setIfInBounds_toArray, List.set_cons_zero, List.set_cons_succ])
                        refine take_ (i := 2) (oi := { dst := some 139, op := Go.Op.call { callee := Go.Callee.builtin Go.Builtin.len, args := #[Go.Operand.tmp 138], argTypes := #[27] }, type := 3, pos := "law.go:198", after := #[{ on := 1, ground := Go.Ground.data }], guard := none }) (v := ?v2_mx) #[true, true, true, false, false, false, false, false, false, false, false, false, false, false, false, false, false, false, false, false, false, false] rfl rfl (by kernel_rfl) (fun _ _ _ h => h) (Or.inl ⟨by rfl, ?hy2_mx⟩) hHeld rfl ?rest2_mx
                        case hy2_mx => (intro w hSw; have f0' := pw_cell_below hSw f0; have f1' := pw_cell_below hSw f1; have r0' := pw_cell_below hSw r0; clear hSw; go_simp; (first | done | with_reducible rfl | omega))
                        (try simp only [Act.put, List.setIfInBounds_toArray, List.set_cons_zero, List.set_cons_succ])
                        refine take_ (i := 3) (oi := { dst := some 140, op := Go.Op.binOp Go.BinOp.geq 3 (Go.Operand.tmp 137) (Go.Operand.tmp 139) 3, type := 4, pos := "law.go:198", after := #[{ on := 0, ground := Go.Ground.data }, { on := 2, ground := Go.Ground.data }], guard := none }) (v := .bool false) #[true, true, true, true, false, false, false, false, false, false, false, false, false, false, false, false, false, false, false, false, false, false] rfl rfl (by kernel_rfl) (fun _ _ _ h => h) (Or.inl ⟨by rfl, ?hy3_mx⟩) hHeld rfl ?rest3_mx
                        case hy3_mx => (intro w hSw; have f0' := pw_cell_below hSw f0; have f1' := pw_cell_below hSw f1; have r0' := pw_cell_below hSw r0; clear hSw; go_simp; (first | done | with_reducible rfl | omega))
                        (try simp only [Act.put, List.setIfInBounds_toArray, List.set_cons_zero, List.set_cons_succ])
                        refine take_ (i := 4) (oi := { dst := some 141, op := Go.Op.move (Go.Operand.tmp 140), type := 4, pos := "law.go:198", after := #[{ on := 3, ground := Go.Ground.data }], guard := none }) (v := .bool false) #[true, true, true, true, true, false, false, false, false, false, false, false, false, false, false, false, false, false, false, false, false, false] rfl rfl (by kernel_rfl) (fun _ _ _ h => h) (Or.inl ⟨by rfl, ?hy4_mx⟩) hHeld rfl ?rest4_mx
                        case hy4_mx => (intro w hSw; have f0' := pw_cell_below hSw f0; have f1' := pw_cell_below hSw f1; have r0' := pw_cell_below hSw r0; clear hSw; go_simp; (first | done | with_reducible rfl | omega))
                        (try simp only [Act.put, List.setIfInBounds_toArray, List.set_cons_zero, List.set_cons_succ])
                        refine take_ (i := 5) (oi := { dst := some 142, op := Go.Op.move (Go.Operand.tmp 6), type := 27, pos := "law.go:198", after := #[{ on := 4, ground := Go.Ground.guard }], guard := some (4, false) }) (v := ?v5_mx) #[true, true, true, true, true, true, false, false, false, false, false, false, false, false, false, false, false, false, false, false, false, false] rfl rfl (by kernel_rfl) (fun _ _ _ h => h) (Or.inl ⟨by rfl, ?hy5_mx⟩) hHeld rfl ?rest5_mx
                        case hy5_mx => (intro w hSw; have f0' := pw_cell_below hSw f0; have f1' := pw_cell_below hSw f1; have r0' := pw_cell_below hSw r0; clear hSw; go_simp; (first | done | with_reducible rfl | omega))
                        (try simp only [Act.put, List.setIfInBounds_toArray, List.set_cons_zero, List.set_cons_succ])
                        refine take_ (i := 6) (oi := { dst := some 143, op := Go.Op.move (Go.Operand.tmp 10), type := 3, pos := "law.go:198", after := #[{ on := 4, ground := Go.Ground.guard }], guard := some (4, false) }) (v := ?v6_mx) #[true, true, true, true, true, true, true, false, false, false, false, false, false, false, false, false, false, false, false, false, false, false] rfl rfl (by kernel_rfl) (fun _ _ _ h => h) (Or.inl ⟨by rfl, ?hy6_mx⟩) hHeld rfl ?rest6_mx
                        case hy6_mx => (intro w hSw; have f0' := pw_cell_below hSw f0; have f1' := pw_cell_below hSw f1; have r0' := pw_cell_below hSw r0; clear hSw; go_simp; (first | done | with_reducible rfl | omega))
                        (try simp only [Act.put, List.setIfInBounds_toArray, List.set_cons_zero, List.set_cons_succ])
                        refine take_ (i := 7) (oi := { dst := some 144, op := Go.Op.indexAddr 27 (Go.Operand.tmp 142) (Go.Operand.tmp 143), type := 0, pos := "law.go:198", after := #[{ on := 5, ground := Go.Ground.data }, { on := 6, ground := Go.Ground.data }, { on := 4, ground := Go.Ground.guard }], guard := some (4, false) }) (v := ?v7_mx) #[true, true, true, true, true, true, true, true, false, false, false, false, false, false, false, false, false, false, false, false, false, false] rfl rfl (by kernel_rfl) (fun _ _ _ h => h) (Or.inl ⟨by rfl, ?hy7_mx⟩) hHeld rfl ?rest7_mx
                        case hy7_mx => (intro w hSw; have f0' := pw_cell_below hSw f0; have f1' := pw_cell_below hSw f1; have r0' := pw_cell_below hSw r0; clear hSw; go_simp; (first | done | with_reducible rfl | omega))
                        (try simp only [Act.put, List.setIfInBounds_toArray, List.set_cons_zero, List.set_cons_succ])
                        refine take_ (i := 8) (oi := { dst := some 145, op := Go.Op.fieldAddr 36 (Go.Operand.tmp 144) 0, type := 0, pos := "law.go:198", after := #[{ on := 7, ground := Go.Ground.data }, { on := 4, ground := Go.Ground.guard }], guard := some (4, false) }) (v := ?v8_mx) #[true, true, true, true, true, true, true, true, true, false, false, false, false, false, false, false, false, false, false, false, false, false] rfl rfl (by kernel_rfl) (fun _ _ _ h => h) (Or.inl ⟨by rfl, ?hy8_mx⟩) hHeld rfl ?rest8_mx
                        case hy8_mx => (intro w hSw; have f0' := pw_cell_below hSw f0; have f1' := pw_cell_below hSw f1; have r0' := pw_cell_below hSw r0; clear hSw; go_simp; (first | done | with_reducible rfl | omega))
                        (try simp only [Act.put, List.setIfInBounds_toArray, List.set_cons_zero, List.set_cons_succ])
                        refine take_ (i := 9) (oi := { dst := some 146, op := Go.Op.load 9 (Go.Operand.tmp 145), type := 9, pos := "law.go:198", after := #[{ on := 8, ground := Go.Ground.data }, { on := 4, ground := Go.Ground.guard }], guard := some (4, false) }) (v := ?v9_mx) #[true, true, true, true, true, true, true, true, true, true, false, false, false, false, false, false, false, false, false, false, false, false] rfl rfl (by kernel_rfl) (fun _ _ _ h => h) (Or.inl ⟨by rfl, ?hy9_mx⟩) hHeld rfl ?rest9_mx
                        case hy9_mx => (intro w hSw; have f0' := pw_cell_below hSw f0; have f1' := pw_cell_below hSw f1; have r0' := pw_cell_below hSw r0; clear hSw; go_simp; (first | done | with_reducible rfl | omega))
                        (try simp only [Act.put, List.setIfInBounds_toArray, List.set_cons_zero, List.set_cons_succ])
                        refine take_ (i := 10) (oi := { dst := some 147, op := Go.Op.fieldAddr 44 (Go.Operand.tmp 13) 0, type := 0, pos := "law.go:198", after := #[{ on := 4, ground := Go.Ground.guard }], guard := some (4, false) }) (v := ?v10_mx) #[true, true, true, true, true, true, true, true, true, true, true, false, false, false, false, false, false, false, false, false, false, false] rfl rfl (by kernel_rfl) (fun _ _ _ h => h) (Or.inl ⟨by rfl, ?hy10_mx⟩) hHeld rfl ?rest10_mx
                        case hy10_mx => (intro w hSw; have f0' := pw_cell_below hSw f0; have f1' := pw_cell_below hSw f1; have r0' := pw_cell_below hSw r0; clear hSw; go_simp; (first | done | with_reducible rfl | omega))
                        (try simp only [Act.put, List.setIfInBounds_toArray, List.set_cons_zero, List.set_cons_succ])
                        refine take_ (i := 11) (oi := { dst := some 148, op := Go.Op.load 9 (Go.Operand.tmp 147), type := 9, pos := "law.go:198", after := #[{ on := 10, ground := Go.Ground.data }, { on := 4, ground := Go.Ground.guard }], guard := some (4, false) }) (v := ?v11_mx) #[true, true, true, true, true, true, true, true, true, true, true, true, false, false, false, false, false, false, false, false, false, false] rfl rfl (by kernel_rfl) (fun _ _ _ h => h) (Or.inl ⟨by rfl, ?hy11_mx⟩) hHeld rfl ?rest11_mx
                        case hy11_mx => (intro w hSw; have f0' := pw_cell_below hSw f0; have f1' := pw_cell_below hSw f1; have r0' := pw_cell_below hSw r0; clear hSw; go_simp; (first | done | with_reducible rfl | omega))
                        (try simp only [Act.put, List.setIfInBounds_toArray, List.set_cons_zero, List.set_cons_succ])
                        refine take_ (i := 12) (oi := { dst := some 149, op := Go.Op.binOp Go.BinOp.neq 9 (Go.Operand.tmp 146) (Go.Operand.tmp 148) 9, type := 4, pos := "law.go:198", after := #[{ on := 9, ground := Go.Ground.data }, { on := 11, ground := Go.Ground.data }, { on := 4, ground := Go.Ground.guard }], guard := some (4, false) }) (v := .bool false) #[true, true, true, true, true, true, true, true, true, true, true, true, true, false, false, false, false, false, false, false, false, false] rfl rfl (by kernel_rfl) (fun _ _ _ h => h) (Or.inl ⟨by rfl, ?hy12_mx⟩) hHeld rfl ?rest12_mx
                        case hy12_mx => (intro w hSw; have f0' := pw_cell_below hSw f0; have f1' := pw_cell_below hSw f1; have r0' := pw_cell_below hSw r0; clear hSw; go_simp; (first | done | with_reducible rfl | omega))
                        (try simp only [Act.put, List.setIfInBounds_toArray, List.set_cons_zero, List.set_cons_succ])
                        refine take_ (i := 13) (oi := { dst := some 150, op := Go.Op.pick (Go.Operand.tmp 141) (Go.Operand.const (Go.Value.bool true)) (Go.Operand.tmp 149), type := 4, pos := "law.go:198", after := #[{ on := 4, ground := Go.Ground.data }, { on := 12, ground := Go.Ground.data }], guard := none }) (v := .bool false) #[true, true, true, true, true, true, true, true, true, true, true, true, true, true, false, false, false, false, false, false, false, false] rfl rfl (by kernel_rfl) (fun _ _ _ h => h) (Or.inl ⟨by rfl, ?hy13_mx⟩) hHeld rfl ?rest13_mx
                        case hy13_mx => (intro w hSw; have f0' := pw_cell_below hSw f0; have f1' := pw_cell_below hSw f1; have r0' := pw_cell_below hSw r0; clear hSw; go_simp; (first | done | with_reducible rfl | omega))
                        (try simp only [Act.put, List.setIfInBounds_toArray, List.set_cons_zero, List.set_cons_succ])
                        refine take_ (i := 14) (oi := { dst := some 151, op := Go.Op.move (Go.Operand.tmp 150), type := 4, pos := "law.go:198", after := #[{ on := 13, ground := Go.Ground.data }, { on := 4, ground := Go.Ground.chain }], guard := none }) (v := .bool false) #[true, true, true, true, true, true, true, true, true, true, true, true, true, true, true, false, false, false, false, false, false, false] rfl rfl (by kernel_rfl) (fun _ _ _ h => h) (Or.inl ⟨by rfl, ?hy14_mx⟩) hHeld rfl ?rest14_mx
                        case hy14_mx => (intro w hSw; have f0' := pw_cell_below hSw f0; have f1' := pw_cell_below hSw f1; have r0' := pw_cell_below hSw r0; clear hSw; go_simp; (first | done | with_reducible rfl | omega))
                        (try simp only [Act.put, List.setIfInBounds_toArray, List.set_cons_zero, List.set_cons_succ])
                        refine take_ (i := 15) (oi := { dst := some 152, op := Go.Op.move (Go.Operand.tmp 6), type := 27, pos := "law.go:198", after := #[{ on := 14, ground := Go.Ground.guard }], guard := some (14, false) }) (v := ?v15_mx) #[true, true, true, true, true, true, true, true, true, true, true, true, true, true, true, true, false, false, false, false, false, false] rfl rfl (by kernel_rfl) (fun _ _ _ h => h) (Or.inl ⟨by rfl, ?hy15_mx⟩) hHeld rfl ?rest15_mx
                        case hy15_mx => (intro w hSw; have f0' := pw_cell_below hSw f0; have f1' := pw_cell_below hSw f1; have r0' := pw_cell_below hSw r0; clear hSw; go_simp; (first | done | with_reducible rfl | omega))
                        (try simp only [Act.put, List.setIfInBounds_toArray, List.set_cons_zero, List.set_cons_succ])
                        refine take_ (i := 16) (oi := { dst := some 153, op := Go.Op.move (Go.Operand.tmp 10), type := 3, pos := "law.go:198", after := #[{ on := 14, ground := Go.Ground.guard }], guard := some (14, false) }) (v := ?v16_mx) #[true, true, true, true, true, true, true, true, true, true, true, true, true, true, true, true, true, false, false, false, false, false] rfl rfl (by kernel_rfl) (fun _ _ _ h => h) (Or.inl ⟨by rfl, ?hy16_mx⟩) hHeld rfl ?rest16_mx
                        case hy16_mx => (intro w hSw; have f0' := pw_cell_below hSw f0; have f1' := pw_cell_below hSw f1; have r0' := pw_cell_below hSw r0; clear hSw; go_simp; (first | done | with_reducible rfl | omega))
                        (try simp only [Act.put, List.setIfInBounds_toArray, List.set_cons_zero, List.set_cons_succ])
                        refine take_ (i := 17) (oi := { dst := some 154, op := Go.Op.indexAddr 27 (Go.Operand.tmp 152) (Go.Operand.tmp 153), type := 0, pos := "law.go:198", after := #[{ on := 15, ground := Go.Ground.data }, { on := 16, ground := Go.Ground.data }, { on := 14, ground := Go.Ground.guard }], guard := some (14, false) }) (v := ?v17_mx) #[true, true, true, true, true, true, true, true, true, true, true, true, true, true, true, true, true, true, false, false, false, false] rfl rfl (by kernel_rfl) (fun _ _ _ h => h) (Or.inl ⟨by rfl, ?hy17_mx⟩) hHeld rfl ?rest17_mx
                        case hy17_mx => (intro w hSw; have f0' := pw_cell_below hSw f0; have f1' := pw_cell_below hSw f1; have r0' := pw_cell_below hSw r0; clear hSw; go_simp; (first | done | with_reducible rfl | omega))
                        (try simp only [Act.put, List.setIfInBounds_toArray, List.set_cons_zero, List.set_cons_succ])
                        refine take_ (i := 18) (oi := { dst := some 155, op := Go.Op.fieldAddr 36 (Go.Operand.tmp 154) 1, type := 0, pos := "law.go:198", after := #[{ on := 17, ground := Go.Ground.data }, { on := 14, ground := Go.Ground.guard }], guard := some (14, false) }) (v := ?v18_mx) #[true, true, true, true, true, true, true, true, true, true, true, true, true, true, true, true, true, true, true, false, false, false] rfl rfl (by kernel_rfl) (fun _ _ _ h => h) (Or.inl ⟨by rfl, ?hy18_mx⟩) hHeld rfl ?rest18_mx
                        case hy18_mx => (intro w hSw; have f0' := pw_cell_below hSw f0; have f1' := pw_cell_below hSw f1; have r0' := pw_cell_below hSw r0; clear hSw; go_simp; (first | done | with_reducible rfl | omega))
                        (try simp only [Act.put, List.setIfInBounds_toArray, List.set_cons_zero, List.set_cons_succ])
                        refine take_ (i := 19) (oi := { dst := some 156, op := Go.Op.load 3 (Go.Operand.tmp 155), type := 3, pos := "law.go:198", after := #[{ on := 18, ground := Go.Ground.data }, { on := 14, ground := Go.Ground.guard }], guard := some (14, false) }) (v := ?v19_mx) #[true, true, true, true, true, true, true, true, true, true, true, true, true, true, true, true, true, true, true, true, false, false] rfl rfl (by kernel_rfl) (fun _ _ _ h => h) (Or.inl ⟨by rfl, ?hy19_mx⟩) hHeld rfl ?rest19_mx
                        case hy19_mx => (intro w hSw; have f0' := pw_cell_below hSw f0; have f1' := pw_cell_below hSw f1; have r0' := pw_cell_below hSw r0; clear hSw; go_simp; (first | done | with_reducible rfl | omega))
                        (try simp only [Act.put, List.setIfInBounds_toArray, List.set_cons_zero, List.set_cons_succ])
                        refine take_ (i := 20) (oi := { dst := some 157, op := Go.Op.binOp Go.BinOp.neq 3 (Go.Operand.tmp 156) (Go.Operand.const (Go.Value.int Go.IntKind.i64 1)) 3, type := 4, pos := "law.go:198", after := #[{ on := 19, ground := Go.Ground.data }, { on := 14, ground := Go.Ground.guard }], guard := some (14, false) }) (v := .bool false) #[true, true, true, true, true, true, true, true, true, true, true, true, true, true, true, true, true, true, true, true, true, false] rfl rfl (by kernel_rfl) (fun _ _ _ h => h) (Or.inl ⟨by rfl, ?hy20_mx⟩) hHeld rfl ?rest20_mx
                        case hy20_mx => (intro w hSw; have f0' := pw_cell_below hSw f0; have f1' := pw_cell_below hSw f1; have r0' := pw_cell_below hSw r0; clear hSw; go_simp; (first | done | with_reducible rfl | omega))
                        (try simp only [Act.put, List.setIfInBounds_toArray, List.set_cons_zero, List.set_cons_succ])
                        refine last_ (i := 21) (oi := { dst := some 158, op := Go.Op.pick (Go.Operand.tmp 151) (Go.Operand.const (Go.Value.bool true)) (Go.Operand.tmp 157), type := 4, pos := "law.go:198", after := #[{ on := 14, ground := Go.Ground.data }, { on := 20, ground := Go.Ground.data }], guard := none }) #[true, true, true, true, true, true, true, true, true, true, true, true, true, true, true, true, true, true, true, true, true, true] rfl rfl (by kernel_rfl) (by decide) (fun K hK => ?_)
                        go_simp
                        refine hK.out _ _ ?_
                        clear hK K
                        refine done_ (by kernel_rfl) ?_
                        go_wp2_with fail
                        go_roundg ((askM l root).2.length - (j + 1))
                        case rel => exact ⟨j + 1, k + 1, ch.f0 :: L, n + 1, by omega, by go_num, by go_num, rfl, by omega, by omega, HM13.out, by omega, by simp only [List.length_cons]; omega, Lib.hid HT3.out, HK13.out.drew⟩
                        case measure => omega
                  · rw [hsg] at x3
                    try rw [hf3] at c3' hlk hput
                    try clear hf3
                    clear hsg
                    go_wp2_with fail
                    refine (enfiladeref20_Ask.calls kb ok A c l ch.f0 rb (askM l ch.f0).1 (askM l ch.f0).2 _ HV12.out HKB.out).mono ?_
                    rintro e w13 ⟨v13, rfl, hV13, hB13⟩
                    obtain ⟨A13, c13, rfl⟩ := Kd.V_slice hV13
                    have hk13 := HK12.out.below hB13
                    have hb13 := (hB13.block _ (blk_lt HB12.out)).trans HB12.out
                    have hm13 := HM12.out.step (hB13.block _ HM12.out.lt)
                    clear hV13 hB13 r0
                    have HK13 := Lib.hid hk13; clear hk13
                    have r0 := (blk_cell hb13 0).trans rfl
                    have HB13 := Lib.hid hb13; clear hb13
                    have HM13 := Lib.hid hm13; clear hm13
                    clear hlk hput c0 c1 c2' c3' c4' x3
                    cases hk0 : ((askM l ch.f0).1 == 0) with
                    | true =>
                      have hout := tells_wait HT.out HME.out (show (askM l ch.f0).1 = 0 from by simpa using hk0)
                      have hkn : k = kids1.length + 1 := by
                        have := congrArg List.length hout
                        rw [List.length_drop, List.length_cons, List.length_nil] at this
                        omega
                      clear hout
                      go_wp2_with fail
                      go_ret
                      exact ⟨ret_bool (by first | rfl | (rw [hkn]; simp)), HK10.out.then_ HK13.out (fun _ h => h.elim)⟩
                    | false =>
                      cases hk2 : ((askM l ch.f0).1 == 2) with
                      | false =>
                        have HT3 := Lib.hid (tells_skip HT.out HME.out (show ¬ (askM l ch.f0).1 = 0 from by simpa using hk0) (show ¬ (askM l ch.f0).1 = 2 from by simpa using hk2))
                        go_wp2_with fail
                        go_roundg ((askM l root).2.length - (j + 1))
                        case rel => exact ⟨j + 1, k, ch.f0 :: L, n + 1, by omega, by go_num, rfl, rfl, by omega, by omega, HM13.out, by omega, by simp only [List.length_cons]; omega, Lib.hid HT3.out, HK13.out⟩
                        case measure => omega
                      | true =>
                        obtain ⟨out2, ho2, hT3⟩ := kids_told HT.out HME.out (by simpa using hk2)
                        have hklt : k < kids1.length + 1 := by
                          have := congrArg List.length ho2
                          rw [List.length_drop, List.length_cons, List.length_cons] at this
                          omega
                        have hki : (k : Int) < (kids1.length : Int) + 1 := by omega
                        have hgk : (⟨root, 0, []⟩ :: kids1 : List S38)[k]'(by simpa using hklt) = stepOf 0 ch := by
                          have h1 := List.drop_eq_getElem_cons (l := (⟨root, 0, []⟩ :: kids1 : List S38)) (i := k) (by simpa using hklt)
                          rw [ho2] at h1
                          injection h1 with h1 _
                          exact h1.symm
                        have hdk : (⟨root, 0, []⟩ :: kids1 : List S38).drop (k + 1) = out2 := by
                          have h1 := List.drop_eq_getElem_cons (l := (⟨root, 0, []⟩ :: kids1 : List S38)) (i := k) (by simpa using hklt)
                          rw [ho2] at h1
                          injection h1 with _ h1
                          exact h1.symm
                        rw [← hdk] at hT3
                        have HT3 := Lib.hid hT3; clear hT3 hdk ho2
                        obtain ⟨_, _, f0, f1, _, _, _⟩ := HCQ.out k (by simpa using hklt)
                        rw [hgk] at f0 f1
                        clear hgk
                        have f0 := cell_keep (cell_keep f0 HK610.out) HK13.out
                        have f1 := cell_keep (cell_keep f1 HK610.out) HK13.out
                        have f0 : w13.cell? ⟨bq, oq + k * 3, none⟩ = some (.string ch.f0) := f0
                        have f1 : w13.cell? ⟨bq, oq + k * 3 + 1, none⟩ = some (.int .i64 1) := f1
                        go_wp2_with fail
                        refine start_ (S := (fun w' : World => Below w13.heap.size w13 w')) (ds := [21]) #[false, false, false, false, false, false, false, false, false, false, false, false, false, false, false, false, false, false, false, false, false, false] rfl rfl rfl (below_drew (Below.refl _ _)) (fun hHeld => ?_)
                        refine take_ (i := 0) (oi := { dst := some 137, op := Go.Op.move (Go.Operand.tmp 10), type := 3, pos := "law.go:198", after := #[], guard := none }) (v := ?v0_my) #[true, false, false, false, false, false, false, false, false, false, false, false, false, false, false, false, false, false, false, false, false, false] rfl rfl (by kernel_rfl) (fun _ _ _ h => h) (Or.inl ⟨by rfl, ?hy0_my⟩) hHeld rfl ?rest0_my
                        case hy0_my => (intro w hSw; have f0' := pw_cell_below hSw f0; have f1' := pw_cell_below hSw f1; have r0' := pw_cell_below hSw r0; clear hSw; go_simp; (first | done | with_reducible rfl | omega))
                        (try simp only [Act.put, List.setIfInBounds_toArray, List.set_cons_zero, List.set_cons_succ])
                        refine take_ (i := 1) (oi := { dst := some 138, op := Go.Op.move (Go.Operand.tmp 6), type := 27, pos := "law.go:198", after := #[], guard := none }) (v := ?v1_my) #[true, true, false, false, false, false, false, false, false, false, false, false, false, false, false, false, false, false, false, false, false, false] rfl rfl (by kernel_rfl) (fun _ _ _ h => h) (Or.inl ⟨by rfl, ?hy1_my⟩) hHeld rfl ?rest1_my
                        case hy1_my => (intro w hSw; have f0' := pw_cell_below hSw f0; have f1' := pw_cell_below hSw f1; have r0' := pw_cell_below hSw r0; clear hSw; go_simp; (first | done | with_reducible rfl | omega))
                        (try simp only [Act.put, List.setIfInBounds_toArray, List.set_cons_zero, List.set_cons_succ])
                        refine take_ (i := 2) (oi := { dst := some 139, op := Go.Op.call { callee := Go.Callee.builtin Go.Builtin.len, args := #[Go.Operand.tmp 138], argTypes := #[27] }, type := 3, pos := "law.go:198", after := #[{ on := 1, ground := Go.Ground.data }], guard := none }) (v := ?v2_my) #[true, true, true, false, false, false, false, false, false, false, false, false, false, false, false, false, false, false, false, false, false, false] rfl rfl (by kernel_rfl) (fun _ _ _ h => h) (Or.inl ⟨by rfl, ?hy2_my⟩) hHeld rfl ?rest2_my
                        case hy2_my => (intro w hSw; have f0' := pw_cell_below hSw f0; have f1' := pw_cell_below hSw f1; have r0' := pw_cell_below hSw r0; clear hSw; go_simp; (first | done | with_reducible rfl | omega))
                        (try simp only [Act.put, List.setIfInBounds_toArray, List.set_cons_zero, List.set_cons_succ])
                        refine take_ (i := 3) (oi := { dst := some 140, op := Go.Op.binOp Go.BinOp.geq 3 (Go.Operand.tmp 137) (Go.Operand.tmp 139) 3, type := 4, pos := "law.go:198", after := #[{ on := 0, ground := Go.Ground.data }, { on := 2, ground := Go.Ground.data }], guard := none }) (v := .bool false) #[true, true, true, true, false, false, false, false, false, false, false, false, false, false, false, false, false, false, false, false, false, false] rfl rfl (by kernel_rfl) (fun _ _ _ h => h) (Or.inl ⟨by rfl, ?hy3_my⟩) hHeld rfl ?rest3_my
                        case hy3_my => (intro w hSw; have f0' := pw_cell_below hSw f0; have f1' := pw_cell_below hSw f1; have r0' := pw_cell_below hSw r0; clear hSw; go_simp; (first | done | with_reducible rfl | omega))
                        (try simp only [Act.put, List.setIfInBounds_toArray, List.set_cons_zero, List.set_cons_succ])
                        refine take_ (i := 4) (oi := { dst := some 141, op := Go.Op.move (Go.Operand.tmp 140), type := 4, pos := "law.go:198", after := #[{ on := 3, ground := Go.Ground.data }], guard := none }) (v := .bool false) #[true, true, true, true, true, false, false, false, false, false, false, false, false, false, false, false, false, false, false, false, false, false] rfl rfl (by kernel_rfl) (fun _ _ _ h => h) (Or.inl ⟨by rfl, ?hy4_my⟩) hHeld rfl ?rest4_my
                        case hy4_my => (intro w hSw; have f0' := pw_cell_below hSw f0; have f1' := pw_cell_below hSw f1; have r0' := pw_cell_below hSw r0; clear hSw; go_simp; (first | done | with_reducible rfl | omega))
                        (try simp only [Act.put, List.setIfInBounds_toArray, List.set_cons_zero, List.set_cons_succ])
                        refine take_ (i := 5) (oi := { dst := some 142, op := Go.Op.move (Go.Operand.tmp 6), type := 27, pos := "law.go:198", after := #[{ on := 4, ground := Go.Ground.guard }], guard := some (4, false) }) (v := ?v5_my) #[true, true, true, true, true, true, false, false, false, false, false, false, false, false, false, false, false, false, false, false, false, false] rfl rfl (by kernel_rfl) (fun _ _ _ h => h) (Or.inl ⟨by rfl, ?hy5_my⟩) hHeld rfl ?rest5_my
                        case hy5_my => (intro w hSw; have f0' := pw_cell_below hSw f0; have f1' := pw_cell_below hSw f1; have r0' := pw_cell_below hSw r0; clear hSw; go_simp; (first | done | with_reducible rfl | omega))
                        (try simp only [Act.put, List.setIfInBounds_toArray, List.set_cons_zero, List.set_cons_succ])
                        refine take_ (i := 6) (oi := { dst := some 143, op := Go.Op.move (Go.Operand.tmp 10), type := 3, pos := "law.go:198", after := #[{ on := 4, ground := Go.Ground.guard }], guard := some (4, false) }) (v := ?v6_my) #[true, true, true, true, true, true, true, false, false, false, false, false, false, false, false, false, false, false, false, false, false, false] rfl rfl (by kernel_rfl) (fun _ _ _ h => h) (Or.inl ⟨by rfl, ?hy6_my⟩) hHeld rfl ?rest6_my
                        case hy6_my => (intro w hSw; have f0' := pw_cell_below hSw f0; have f1' := pw_cell_below hSw f1; have r0' := pw_cell_below hSw r0; clear hSw; go_simp; (first | done | with_reducible rfl | omega))
                        (try simp only [Act.put, List.setIfInBounds_toArray, List.set_cons_zero, List.set_cons_succ])
                        refine take_ (i := 7) (oi := { dst := some 144, op := Go.Op.indexAddr 27 (Go.Operand.tmp 142) (Go.Operand.tmp 143), type := 0, pos := "law.go:198", after := #[{ on := 5, ground := Go.Ground.data }, { on := 6, ground := Go.Ground.data }, { on := 4, ground := Go.Ground.guard }], guard := some (4, false) }) (v := ?v7_my) #[true, true, true, true, true, true, true, true, false, false, false, false, false, false, false, false, false, false, false, false, false, false] rfl rfl (by kernel_rfl) (fun _ _ _ h => h) (Or.inl ⟨by rfl, ?hy7_my⟩) hHeld rfl ?rest7_my
                        case hy7_my => (intro w hSw; have f0' := pw_cell_below hSw f0; have f1' := pw_cell_below hSw f1; have r0' := pw_cell_below hSw r0; clear hSw; go_simp; (first | done | with_reducible rfl | omega))
                        (try simp only [Act.put, List.setIfInBounds_toArray, List.set_cons_zero, List.set_cons_succ])
                        refine take_ (i := 8) (oi := { dst := some 145, op := Go.Op.fieldAddr 36 (Go.Operand.tmp 144) 0, type := 0, pos := "law.go:198", after := #[{ on := 7, ground := Go.Ground.data }, { on := 4, ground := Go.Ground.guard }], guard := some (4, false) }) (v := ?v8_my) #[true, true, true, true, true, true, true, true, true, false, false, false, false, false, false, false, false, false, false, false, false, false] rfl rfl (by kernel_rfl) (fun _ _ _ h => h) (Or.inl ⟨by rfl, ?hy8_my⟩) hHeld rfl ?rest8_my
                        case hy8_my => (intro w hSw; have f0' := pw_cell_below hSw f0; have f1' := pw_cell_below hSw f1; have r0' := pw_cell_below hSw r0; clear hSw; go_simp; (first | done | with_reducible rfl | omega))
                        (try simp only [Act.put, List.setIfInBounds_toArray, List.set_cons_zero, List.set_cons_succ])
                        refine take_ (i := 9) (oi := { dst := some 146, op := Go.Op.load 9 (Go.Operand.tmp 145), type := 9, pos := "law.go:198", after := #[{ on := 8, ground := Go.Ground.data }, { on := 4, ground := Go.Ground.guard }], guard := some (4, false) }) (v := ?v9_my) #[true, true, true, true, true, true, true, true, true, true, false, false, false, false, false, false, false, false, false, false, false, false] rfl rfl (by kernel_rfl) (fun _ _ _ h => h) (Or.inl ⟨by rfl, ?hy9_my⟩) hHeld rfl ?rest9_my
                        case hy9_my => (intro w hSw; have f0' := pw_cell_below hSw f0; have f1' := pw_cell_below hSw f1; have r0' := pw_cell_below hSw r0; clear hSw; go_simp; (first | done | with_reducible rfl | omega))
                        (try simp only [Act.put, List.setIfInBounds_toArray, List.set_cons_zero, List.set_cons_succ])
                        refine take_ (i := 10) (oi := { dst := some 147, op := Go.Op.fieldAddr 44 (Go.Operand.tmp 13) 0, type := 0, pos := "law.go:198", after := #[{ on := 4, ground := Go.Ground.guard }], guard := some (4, false) }) (v := ?v10_my) #[true, true, true, true, true, true, true, true, true, true, true, false, false, false, false, false, false, false, false, false, false, false] rfl rfl (by kernel_rfl) (fun _ _ _ h => h) (Or.inl ⟨by rfl, ?hy10_my⟩) hHeld rfl ?rest10_my
                        case hy10_my => (intro w hSw; have f0' := pw_cell_below hSw f0; have f1' := pw_cell_below hSw f1; have r0' := pw_cell_below hSw r0; clear hSw; go_simp; (first | done | with_reducible rfl | omega))
                        (try simp only [Act.put, List.setIfInBounds_toArray, List.set_cons_zero, List.set_cons_succ])
                        refine take_ (i := 11) (oi := { dst := some 148, op := Go.Op.load 9 (Go.Operand.tmp 147), type := 9, pos := "law.go:198", after := #[{ on := 10, ground := Go.Ground.data }, { on := 4, ground := Go.Ground.guard }], guard := some (4, false) }) (v := ?v11_my) #[true, true, true, true, true, true, true, true, true, true, true, true, false, false, false, false, false, false, false, false, false, false] rfl rfl (by kernel_rfl) (fun _ _ _ h => h) (Or.inl ⟨by rfl, ?hy11_my⟩) hHeld rfl ?rest11_my
                        case hy11_my => (intro w hSw; have f0' := pw_cell_below hSw f0; have f1' := pw_cell_below hSw f1; have r0' := pw_cell_below hSw r0; clear hSw; go_simp; (first | done | with_reducible rfl | omega))
                        (try simp only [Act.put, List.setIfInBounds_toArray, List.set_cons_zero, List.set_cons_succ])
                        refine take_ (i := 12) (oi := { dst := some 149, op := Go.Op.binOp Go.BinOp.neq 9 (Go.Operand.tmp 146) (Go.Operand.tmp 148) 9, type := 4, pos := "law.go:198", after := #[{ on := 9, ground := Go.Ground.data }, { on := 11, ground := Go.Ground.data }, { on := 4, ground := Go.Ground.guard }], guard := some (4, false) }) (v := .bool false) #[true, true, true, true, true, true, true, true, true, true, true, true, true, false, false, false, false, false, false, false, false, false] rfl rfl (by kernel_rfl) (fun _ _ _ h => h) (Or.inl ⟨by rfl, ?hy12_my⟩) hHeld rfl ?rest12_my
                        case hy12_my => (intro w hSw; have f0' := pw_cell_below hSw f0; have f1' := pw_cell_below hSw f1; have r0' := pw_cell_below hSw r0; clear hSw; go_simp; (first | done | with_reducible rfl | omega))
                        (try simp only [Act.put, List.setIfInBounds_toArray, List.set_cons_zero, List.set_cons_succ])
                        refine take_ (i := 13) (oi := { dst := some 150, op := Go.Op.pick (Go.Operand.tmp 141) (Go.Operand.const (Go.Value.bool true)) (Go.Operand.tmp 149), type := 4, pos := "law.go:198", after := #[{ on := 4, ground := Go.Ground.data }, { on := 12, ground := Go.Ground.data }], guard := none }) (v := .bool false) #[true, true, true, true, true, true, true, true, true, true, true, true, true, true, false, false, false, false, false, false, false, false] rfl rfl (by kernel_rfl) (fun _ _ _ h => h) (Or.inl ⟨by rfl, ?hy13_my⟩) hHeld rfl ?rest13_my
                        case hy13_my => (intro w hSw; have f0' := pw_cell_below hSw f0; have f1' := pw_cell_below hSw f1; have r0' := pw_cell_below hSw r0; clear hSw; go_simp; (first | done | with_reducible rfl | omega))
                        (try simp only [Act.put, List.setIfInBounds_toArray, List.set_cons_zero, List.set_cons_succ])
                        refine take_ (i := 14) (oi := { dst := some 151, op := Go.Op.move (Go.Operand.tmp 150), type := 4, pos := "law.go:198", after := #[{ on := 13, ground := Go.Ground.data }, { on := 4, ground := Go.Ground.chain }], guard := none }) (v := .bool false) #[true, true, true, true, true, true, true, true, true, true, true, true, true, true, true, false, false, false, false, false, false, false] rfl rfl (by kernel_rfl) (fun _ _ _ h => h) (Or.inl ⟨by rfl, ?hy14_my⟩) hHeld rfl ?rest14_my
                        case hy14_my => (intro w hSw; have f0' := pw_cell_below hSw f0; have f1' := pw_cell_below hSw f1; have r0' := pw_cell_below hSw r0; clear hSw; go_simp; (first | done | with_reducible rfl | omega))
                        (try simp only [Act.put, List.setIfInBounds_toArray, List.set_cons_zero, List.set_cons_succ])
                        refine take_ (i := 15) (oi := { dst := some 152, op := Go.Op.move (Go.Operand.tmp 6), type := 27, pos := "law.go:198", after := #[{ on := 14, ground := Go.Ground.guard }], guard := some (14, false) }) (v := ?v15_my) #[true, true, true, true, true, true, true, true, true, true, true, true, true, true, true, true, false, false, false, false, false, false] rfl rfl (by kernel_rfl) (fun _ _ _ h => h) (Or.inl ⟨by rfl, ?hy15_my⟩) hHeld rfl ?rest15_my
                        case hy15_my => (intro w hSw; have f0' := pw_cell_below hSw f0; have f1' := pw_cell_below hSw f1; have r0' := pw_cell_below hSw r0; clear hSw; go_simp; (first | done | with_reducible rfl | omega))
                        (try simp only [Act.put, List.setIfInBounds_toArray, List.set_cons_zero, List.set_cons_succ])
                        refine take_ (i := 16) (oi := { dst := some 153, op := Go.Op.move (Go.Operand.tmp 10), type := 3, pos := "law.go:198", after := #[{ on := 14, ground := Go.Ground.guard }], guard := some (14, false) }) (v := ?v16_my) #[true, true, true, true, true, true, true, true, true, true, true, true, true, true, true, true, true, false, false, false, false, false] rfl rfl (by kernel_rfl) (fun _ _ _ h => h) (Or.inl ⟨by rfl, ?hy16_my⟩) hHeld rfl ?rest16_my
                        case hy16_my => (intro w hSw; have f0' := pw_cell_below hSw f0; have f1' := pw_cell_below hSw f1; have r0' := pw_cell_below hSw r0; clear hSw; go_simp; (first | done | with_reducible rfl | omega))
                        (try simp only [Act.put, List.setIfInBounds_toArray, List.set_cons_zero, List.set_cons_succ])
                        refine take_ (i := 17) (oi := { dst := some 154, op := Go.Op.indexAddr 27 (Go.Operand.tmp 152) (Go.Operand.tmp 153), type := 0, pos := "law.go:198", after := #[{ on := 15, ground := Go.Ground.data }, { on := 16, ground := Go.Ground.data }, { on := 14, ground := Go.Ground.guard }], guard := some (14, false) }) (v := ?v17_my) #[true, true, true, true, true, true, true, true, true, true, true, true, true, true, true, true, true, true, false, false, false, false] rfl rfl (by kernel_rfl) (fun _ _ _ h => h) (Or.inl ⟨by rfl, ?hy17_my⟩) hHeld rfl ?rest17_my
                        case hy17_my => (intro w hSw; have f0' := pw_cell_below hSw f0; have f1' := pw_cell_below hSw f1; have r0' := pw_cell_below hSw r0; clear hSw; go_simp; (first | done | with_reducible rfl | omega))
                        (try simp only [Act.put, List.setIfInBounds_toArray, List.set_cons_zero, List.set_cons_succ])
                        refine take_ (i := 18) (oi := { dst := some 155, op := Go.Op.fieldAddr 36 (Go.Operand.tmp 154) 1, type := 0, pos := "law.go:198", after := #[{ on := 17, ground := Go.Ground.data }, { on := 14, ground := Go.Ground.guard }], guard := some (14, false) }) (v := ?v18_my) #[true, true, true, true, true, true, true, true, true, true, true, true, true, true, true, true, true, true, true, false, false, false] rfl rfl (by kernel_rfl) (fun _ _ _ h => h) (Or.inl ⟨by rfl, ?hy18_my⟩) hHeld rfl ?rest18_my
                        case hy18_my => (intro w hSw; have f0' := pw_cell_below hSw f0; have f1' := pw_cell_below hSw f1; have r0' := pw_cell_below hSw r0; clear hSw; go_simp; (first | done | with_reducible rfl | omega))
                        (try simp only [Act.put, List.setIfInBounds_toArray, List.set_cons_zero, List.set_cons_succ])
                        refine take_ (i := 19) (oi := { dst := some 156, op := Go.Op.load 3 (Go.Operand.tmp 155), type := 3, pos := "law.go:198", after := #[{ on := 18, ground := Go.Ground.data }, { on := 14, ground := Go.Ground.guard }], guard := some (14, false) }) (v := ?v19_my) #[true, true, true, true, true, true, true, true, true, true, true, true, true, true, true, true, true, true, true, true, false, false] rfl rfl (by kernel_rfl) (fun _ _ _ h => h) (Or.inl ⟨by rfl, ?hy19_my⟩) hHeld rfl ?rest19_my
                        case hy19_my => (intro w hSw; have f0' := pw_cell_below hSw f0; have f1' := pw_cell_below hSw f1; have r0' := pw_cell_below hSw r0; clear hSw; go_simp; (first | done | with_reducible rfl | omega))
                        (try simp only [Act.put, List.setIfInBounds_toArray, List.set_cons_zero, List.set_cons_succ])
                        refine take_ (i := 20) (oi := { dst := some 157, op := Go.Op.binOp Go.BinOp.neq 3 (Go.Operand.tmp 156) (Go.Operand.const (Go.Value.int Go.IntKind.i64 1)) 3, type := 4, pos := "law.go:198", after := #[{ on := 19, ground := Go.Ground.data }, { on := 14, ground := Go.Ground.guard }], guard := some (14, false) }) (v := .bool false) #[true, true, true, true, true, true, true, true, true, true, true, true, true, true, true, true, true, true, true, true, true, false] rfl rfl (by kernel_rfl) (fun _ _ _ h => h) (Or.inl ⟨by rfl, ?hy20_my⟩) hHeld rfl ?rest20_my
                        case hy20_my => (intro w hSw; have f0' := pw_cell_below hSw f0; have f1' := pw_cell_below hSw f1; have r0' := pw_cell_below hSw r0; clear hSw; go_simp; (first | done | with_reducible rfl | omega))
                        (try simp only [Act.put, List.setIfInBounds_toArray, List.set_cons_zero, List.set_cons_succ])
                        refine last_ (i := 21) (oi := { dst := some 158, op := Go.Op.pick (Go.Operand.tmp 151) (Go.Operand.const (Go.Value.bool true)) (Go.Operand.tmp 157), type := 4, pos := "law.go:198", after := #[{ on := 14, ground := Go.Ground.data }, { on := 20, ground := Go.Ground.data }], guard := none }) #[true, true, true, true, true, true, true, true, true, true, true, true, true, true, true, true, true, true, true, true, true, true] rfl rfl (by kernel_rfl) (by decide) (fun K hK => ?_)
                        go_simp
                        refine hK.out _ _ ?_
                        clear hK K
                        refine done_ (by kernel_rfl) ?_
                        go_wp2_with fail
                        go_roundg ((askM l root).2.length - (j + 1))
                        case rel => exact ⟨j + 1, k + 1, ch.f0 :: L, n + 1, by omega, by go_num, by go_num, rfl, by omega, by omega, HM13.out, by omega, by simp only [List.length_cons]; omega, Lib.hid HT3.out, HK13.out.drew⟩
                        case measure => omega
            · have hje : j = (askM l root).2.length := by omega
              have hkn : k = kids1.length + 1 := by
                have hT := HT.out
                rw [hje, List.drop_length] at hT
                have := congrArg List.length (tells_nil hT)
                rw [List.length_drop, List.length_cons, List.length_nil] at this
                omega
              go_wp2_with fail
              go_ret
              exact ⟨ret_bool (by first | rfl | (rw [hkn]; simp)), HK10.out.then_ HKR.out (fun _ h => h.elim)⟩
end Go.Proofs.Yteamocejpankdaa
