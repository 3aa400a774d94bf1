/- The function that tells what rooms are, over a row of what is told of some. For every world. -/
import Derived.Test.YteamocejpankdaaA8
namespace Go.Proofs.Yteamocejpankdaa
open Go.Proofs.YteamocejpankdaaW.PrintLast Go.RowKit Go.Shelf Go.Proofs.YteamocejpankdaaW.PrintWords Go.Proofs.Yteamocejpankdaa.PWalkCopies
set_option linter.unusedVariables false
set_option linter.unusedSimpArgs false
theorem info66 : (Try.prog.info? 66).map (fun i => (i.zero, i.size, i.bytes)) = some (some (.agg #[.string ⟨#[]⟩, .string ⟨#[]⟩, .slice none 0 0, .bool false, .int .i64 0]), 5, 72) := by kernel_rfl
theorem info9 : (Try.prog.info? 9).map (fun i => (i.zero, i.size, i.bytes)) = some (some (.string ⟨#[]⟩), 1, 16) := by kernel_rfl
def KidsPost (W : World) (l : List S44) (e : Ending) (W' : World) : Prop := ∃ v, e = .returned v ∧ k44.R 66 W' W.heap.size (fun _ => True) v l ∧ Below W.heap.size W W'
theorem no_row {w : World} {base g : Nat} {ok : Nat → Prop} (hg : w.heap[g]? = some (.cells #[] 9 (0, 0))) (hb : base ≤ g) (ho : ok g) : Kd.string.R 9 w base ok (.slice (some ⟨g, 0, none⟩) 0 0) [] :=
  ⟨fun k hk => by injection hk with hk; exact hk ▸ ho, [], ⟨rfl, .inr ⟨g, 0, _, rfl, hb, hg, Nat.le_refl _, by decide, rfl, rfl⟩⟩, Reps.none _ _⟩

set_option maxRecDepth 100000 in
set_option maxHeartbeats 1000000 in
theorem children_calls (W : World) (A : Option Addr) (c : Nat) (l : List S44) (okc : Nat → Prop) (hF : Kd.F k44 W okc A l.length l) (hl : l.length ≤ 1000000) (hv : ∀ ch ∈ l, ch.f2.length ≤ 1000000) :
    Calls Try.prog 19 #[.slice A l.length c] W (KidsPost W l) := by
  obtain ⟨f, hcells, hfs⟩ := child_cells hF
  have HC := Lib.hid hcells; clear hcells
  have HS := Lib.hid hfs; clear hfs
  have HF := Lib.hid hF; clear hF
  have HV := Lib.hid hv; clear hv
  go_enter Try.func19, Try.ntmps19
  go_wp2_with fail
  go_loopg [3, 8] l.length (fun kq t3 t8 wr => ∃ i : Nat, i ≤ l.length ∧ t8 = .int .i64 (i : Int) ∧ kq = l.length - i ∧ k44.R 66 wr W.heap.size (fun _ => True) t3 (l.take i) ∧ Below W.heap.size W wr)
  case atStart => exact ⟨0, Nat.zero_le _, rfl, rfl, Kd.R_nil _ _ _ _ _, Below.refl _ _⟩
  case round =>
    obtain ⟨i, hil, rfl, rfl, hR, hB⟩ := hrel
    by_cases hi : i < l.length
    · obtain ⟨b, off, hA, hok, hcc⟩ := HC.out (by omega)
      obtain ⟨q0, q1, q2, q3, q4⟩ := hcc i hi
      have hblt := World.block_lt_of_cell? _ _ q0
      obtain ⟨A2, c2, hfi, hF2, hc2⟩ := HS.out i hi
      rw [hfi] at q0 q1 q2 q3 q4
      have q0 : wr.cell? ⟨b, off + i * 5, none⟩ = some (.string l[i].f0) := (hB.cell (p := ⟨b, off + i * 5, none⟩) hblt).trans q0
      have q1 : wr.cell? ⟨b, off + i * 5 + 1, none⟩ = some (.string l[i].f1) := (hB.cell (p := ⟨b, off + i * 5 + 1, none⟩) hblt).trans q1
      have q2 : wr.cell? ⟨b, off + i * 5 + 2, none⟩ = some (.slice A2 l[i].f2.length c2) := (hB.cell (p := ⟨b, off + i * 5 + 2, none⟩) hblt).trans q2
      have q3 : wr.cell? ⟨b, off + i * 5 + 3, none⟩ = some (.bool l[i].f3) := (hB.cell (p := ⟨b, off + i * 5 + 3, none⟩) hblt).trans q3
      have q4 : wr.cell? ⟨b, off + i * 5 + 4, none⟩ = some (.int .i64 l[i].f4) := (hB.cell (p := ⟨b, off + i * 5 + 4, none⟩) hblt).trans q4
      subst hA
      have HR := Lib.hid hR; clear hR
      have HB := Lib.hid hB; clear hB
      have HF2 := Lib.hid hF2; clear hF2
      clear hcc
      go_wp2_with fail
      have hbx := heap_alloc_new wr (.cells #[.string l[i].f0, .string l[i].f1, .slice A2 l[i].f2.length c2, .bool l[i].f3, .int .i64 l[i].f4] 44)
      have hB1 := below_alloc HB.out (.cells #[.string l[i].f0, .string l[i].f1, .slice A2 l[i].f2.length c2, .bool l[i].f3, .int .i64 l[i].f4] 44)
      have hR1 := Kd.R_alloc HR.out (.cells #[.string l[i].f0, .string l[i].f1, .slice A2 l[i].f2.length c2, .bool l[i].f3, .int .i64 l[i].f4] 44)
      have hs1 : (wr.alloc (.cells #[.string l[i].f0, .string l[i].f1, .slice A2 l[i].f2.length c2, .bool l[i].f3, .int .i64 l[i].f4] 44)).heap.size = wr.heap.size + 1 := World.size_alloc _ _
      have hWl := HB.out.size
      generalize (wr.alloc (.cells #[.string l[i].f0, .string l[i].f1, .slice A2 l[i].f2.length c2, .bool l[i].f3, .int .i64 l[i].f4] 44)) = w1 at *
      have a0 := (blk_cell hbx 0).trans rfl
      have a1 := (blk_cell hbx 1).trans rfl
      have a2 := (blk_cell hbx 2).trans rfl
      have a3 := (blk_cell hbx 3).trans rfl
      have a4 := (blk_cell hbx 4).trans rfl
      have HB1 := Lib.hid hB1; clear hB1
      have HR1 := Lib.hid hR1; clear hR1
      have HBX := Lib.hid hbx; clear hbx
      have SB : ∀ X : World, X.heap[wr.heap.size]? = w1.heap[wr.heap.size]? → X.cell? ⟨wr.heap.size, 0, none⟩ = some (.string l[i].f0) ∧ X.cell? ⟨wr.heap.size, 1, none⟩ = some (.string l[i].f1) ∧ X.cell? ⟨wr.heap.size, 2, none⟩ = some (.slice A2 l[i].f2.length c2) ∧ X.cell? ⟨wr.heap.size, 3, none⟩ = some (.bool l[i].f3) ∧ X.cell? ⟨wr.heap.size, 4, none⟩ = some (.int .i64 l[i].f4) := fun X hX => ⟨(World.cell?_of_block hX).trans a0, (World.cell?_of_block hX).trans a1, (World.cell?_of_block hX).trans a2, (World.cell?_of_block hX).trans a3, (World.cell?_of_block hX).trans a4⟩
      have SB := Lib.hid SB
      have hwr : IntKind.i64.wrap ((i : Int) + 1) = ((i + 1 : Nat) : Int) := by rw [IntWalk.i64_in _ (by omega)]; simp
      refine start_ (S := (fun w' : World => w'.cell? ⟨wr.heap.size, 0, none⟩ = some (.string l[i].f0) ∧ w'.cell? ⟨wr.heap.size, 1, none⟩ = some (.string l[i].f1) ∧ w'.cell? ⟨wr.heap.size, 2, none⟩ = some (.slice A2 l[i].f2.length c2) ∧ w'.cell? ⟨wr.heap.size, 3, none⟩ = some (.bool l[i].f3) ∧ w'.cell? ⟨wr.heap.size, 4, none⟩ = some (.int .i64 l[i].f4))) (ds := [16]) #[false, false, false, false, false, false, false, false, false, false, false, false, false, false, false, false, false] rfl rfl rfl ⟨a0, a1, a2, a3, a4⟩ (fun hHeld => ?_)
      refine take_ (i := 0) (oi := { dst := some 12, op := Go.Op.move (Go.Operand.tmp 3), type := 63, pos := "law.go:31", after := #[], guard := none }) (v := ?v0_) #[true, false, false, false, false, false, false, false, false, false, false, false, false, false, false, false, false] rfl rfl (by kernel_rfl) (fun _ _ _ h => h) (Or.inl ⟨by rfl, ?hy0_⟩) (by assumption) rfl ?rest0_
      case hy0_ => (intro w hSw; (try dsimp only at hSw); go_simp; (first | done | with_reducible rfl))
      (try simp only [Act.put, List.setIfInBounds_toArray, List.set_cons_zero, List.set_cons_succ])
      refine take_ (i := 1) (oi := { dst := some 13, op := Go.Op.fieldAddr 44 (Go.Operand.tmp 5) 0, type := 0, pos := "law.go:31", after := #[], guard := none }) (v := ?v1_) #[true, true, false, false, false, false, false, false, false, false, false, false, false, false, false, false, false] rfl rfl (by kernel_rfl) (fun _ _ _ h => h) (Or.inl ⟨by rfl, ?hy1_⟩) (by assumption) rfl ?rest1_
      case hy1_ => (intro w hSw; (try dsimp only at hSw); go_simp; (first | done | with_reducible rfl))
      (try simp only [Act.put, List.setIfInBounds_toArray, List.set_cons_zero, List.set_cons_succ])
      refine take_ (i := 2) (oi := { dst := some 14, op := Go.Op.load 9 (Go.Operand.tmp 13), type := 9, pos := "law.go:31", after := #[{ on := 1, ground := Go.Ground.data }], guard := none }) (v := ?v2_) #[true, true, true, false, false, false, false, false, false, false, false, false, false, false, false, false, false] rfl rfl (by kernel_rfl) (fun _ _ _ h => h) (Or.inl ⟨by rfl, ?hy2_⟩) (by assumption) rfl ?rest2_
      case hy2_ => (intro w hSw; (try dsimp only at hSw); go_simp; (first | done | with_reducible rfl))
      (try simp only [Act.put, List.setIfInBounds_toArray, List.set_cons_zero, List.set_cons_succ])
      refine take_ (i := 3) (oi := { dst := some 15, op := Go.Op.fieldAddr 44 (Go.Operand.tmp 5) 1, type := 0, pos := "law.go:31", after := #[], guard := none }) (v := ?v3_) #[true, true, true, true, false, false, false, false, false, false, false, false, false, false, false, false, false] rfl rfl (by kernel_rfl) (fun _ _ _ h => h) (Or.inl ⟨by rfl, ?hy3_⟩) (by assumption) rfl ?rest3_
      case hy3_ => (intro w hSw; (try dsimp only at hSw); go_simp; (first | done | with_reducible rfl))
      (try simp only [Act.put, List.setIfInBounds_toArray, List.set_cons_zero, List.set_cons_succ])
      refine take_ (i := 4) (oi := { dst := some 16, op := Go.Op.load 9 (Go.Operand.tmp 15), type := 9, pos := "law.go:31", after := #[{ on := 3, ground := Go.Ground.data }], guard := none }) (v := ?v4_) #[true, true, true, true, true, false, false, false, false, false, false, false, false, false, false, false, false] rfl rfl (by kernel_rfl) (fun _ _ _ h => h) (Or.inl ⟨by rfl, ?hy4_⟩) (by assumption) rfl ?rest4_
      case hy4_ => (intro w hSw; (try dsimp only at hSw); go_simp; (first | done | with_reducible rfl))
      (try simp only [Act.put, List.setIfInBounds_toArray, List.set_cons_zero, List.set_cons_succ])
      refine take_ (i := 6) (oi := { dst := some 18, op := Go.Op.fieldAddr 44 (Go.Operand.tmp 5) 2, type := 0, pos := "law.go:31", after := #[], guard := none }) (v := ?v6_) #[true, true, true, true, true, false, true, false, false, false, false, false, false, false, false, false, false] rfl rfl (by kernel_rfl) (fun _ _ _ h => h) (Or.inl ⟨by rfl, ?hy6_⟩) (by assumption) rfl ?rest6_
      case hy6_ => (intro w hSw; (try dsimp only at hSw); go_simp; (first | done | with_reducible rfl))
      (try simp only [Act.put, List.setIfInBounds_toArray, List.set_cons_zero, List.set_cons_succ])
      refine take_ (i := 7) (oi := { dst := some 19, op := Go.Op.load 34 (Go.Operand.tmp 18), type := 34, pos := "law.go:31", after := #[{ on := 6, ground := Go.Ground.data }], guard := none }) (v := ?v7_) #[true, true, true, true, true, false, true, true, false, false, false, false, false, false, false, false, false] rfl rfl (by kernel_rfl) (fun _ _ _ h => h) (Or.inl ⟨by rfl, ?hy7_⟩) (by assumption) rfl ?rest7_
      case hy7_ => (intro w hSw; (try dsimp only at hSw); go_simp; (first | done | with_reducible rfl))
      (try simp only [Act.put, List.setIfInBounds_toArray, List.set_cons_zero, List.set_cons_succ])
      refine take_ (i := 9) (oi := { dst := some 21, op := Go.Op.fieldAddr 44 (Go.Operand.tmp 5) 3, type := 0, pos := "law.go:31", after := #[], guard := none }) (v := ?v9_) #[true, true, true, true, true, false, true, true, false, true, false, false, false, false, false, false, false] rfl rfl (by kernel_rfl) (fun _ _ _ h => h) (Or.inl ⟨by rfl, ?hy9_⟩) (by assumption) rfl ?rest9_
      case hy9_ => (intro w hSw; (try dsimp only at hSw); go_simp; (first | done | with_reducible rfl))
      (try simp only [Act.put, List.setIfInBounds_toArray, List.set_cons_zero, List.set_cons_succ])
      refine take_ (i := 10) (oi := { dst := some 22, op := Go.Op.load 4 (Go.Operand.tmp 21), type := 4, pos := "law.go:31", after := #[{ on := 9, ground := Go.Ground.data }], guard := none }) (v := ?v10_) #[true, true, true, true, true, false, true, true, false, true, true, false, false, false, false, false, false] rfl rfl (by kernel_rfl) (fun _ _ _ h => h) (Or.inl ⟨by rfl, ?hy10_⟩) (by assumption) rfl ?rest10_
      case hy10_ => (intro w hSw; (try dsimp only at hSw); go_simp; (first | done | with_reducible rfl))
      (try simp only [Act.put, List.setIfInBounds_toArray, List.set_cons_zero, List.set_cons_succ])
      refine take_ (i := 11) (oi := { dst := some 23, op := Go.Op.fieldAddr 44 (Go.Operand.tmp 5) 4, type := 0, pos := "law.go:31", after := #[], guard := none }) (v := ?v11_) #[true, true, true, true, true, false, true, true, false, true, true, true, false, false, false, false, false] rfl rfl (by kernel_rfl) (fun _ _ _ h => h) (Or.inl ⟨by rfl, ?hy11_⟩) (by assumption) rfl ?rest11_
      case hy11_ => (intro w hSw; (try dsimp only at hSw); go_simp; (first | done | with_reducible rfl))
      (try simp only [Act.put, List.setIfInBounds_toArray, List.set_cons_zero, List.set_cons_succ])
      refine take_ (i := 12) (oi := { dst := some 24, op := Go.Op.load 3 (Go.Operand.tmp 23), type := 3, pos := "law.go:31", after := #[{ on := 11, ground := Go.Ground.data }], guard := none }) (v := ?v12_) #[true, true, true, true, true, false, true, true, false, true, true, true, true, false, false, false, false] rfl rfl (by kernel_rfl) (fun _ _ _ h => h) (Or.inl ⟨by rfl, ?hy12_⟩) (by assumption) rfl ?rest12_
      case hy12_ => (intro w hSw; (try dsimp only at hSw); go_simp; (first | done | with_reducible rfl))
      (try simp only [Act.put, List.setIfInBounds_toArray, List.set_cons_zero, List.set_cons_succ])
      refine one_ (i := 5) (oi := { dst := some 17, op := Go.Op.buildSlice 34 0 #[], type := 34, pos := "law.go:31", after := #[], guard := none }) #[true, true, true, true, true, true, true, true, false, true, true, true, true, false, false, false, false] rfl rfl (by kernel_rfl) (by decide) (fun K hK => ?_)
      go_simp
      have hb2 : Below w1.heap.size w1 (w1.alloc (.cells #[] 9)).drew := below_drew (below_alloc (Below.refl _ _) _)
      have hg2 : (w1.alloc (.cells #[] 9)).drew.heap[wr.heap.size + 1]? = some (.cells #[] 9 (0, 0)) := hs1 ▸ heap_alloc_new w1 (.cells #[] 9)
      have CV := Lib.hid (Kd.C_below (Kd.C_below (Kd.F_now HF2.out) HB1.out) hb2)
      have HVL := Lib.hid (Kd.R_lt HR.out)
      have HLT := Lib.hid (show ((l.take i).length + 1) * 72 ≤ 140737488355328 by rw [List.length_take]; omega)
      refine hK.out _ _ (SB.out _ (hb2.block _ (by omega))) (fun hHeld2 => ?_)
      clear hK K
      generalize (w1.alloc (.cells #[] 9)).drew = w2 at *
      have HB2 := Lib.hid hb2; clear hb2
      have HG2 := Lib.hid hg2; clear hg2
      (try simp only [Act.put, List.setIfInBounds_toArray, List.set_cons_zero, List.set_cons_succ])
      refine one_ (i := 8) (oi := { dst := some 20, op := Go.Op.call { callee := Go.Callee.builtin Go.Builtin.append, args := #[Go.Operand.tmp 17, Go.Operand.tmp 19], argTypes := #[34, 34] }, type := 34, pos := "law.go:31", after := #[{ on := 5, ground := Go.Ground.data }, { on := 7, ground := Go.Ground.data }], guard := none }) #[true, true, true, true, true, true, true, true, true, true, true, true, true, false, false, false, false] rfl rfl (by kernel_rfl) (by decide) (fun K hK => ?_)
      refine Kd.R_append_rows_step Kd.string (w0 := w2) (wr.heap.size + 1) (by rfl) (.tmp 17) (.tmp 19) 34 9 (.string ⟨#[]⟩) 16 rfl Try.underlying34 info9 rfl (by decide) (by decide) (.slice (some ⟨wr.heap.size + 1, 0, none⟩) 0 0) [] l[i].f2 A2 l[i].f2.length c2 (fun k => wr.heap.size + 1 ≤ k) (fun _ => False) rfl rfl (no_row HG2.out (Nat.le_refl _) (Nat.le_refl _)) ?hRR (fun _ _ h => h) (fun _ h => h.elim) ?hfr (Below.refl _ _) ?hbase ?hlv ?happ8
      case hRR => exact CV.out
      case hfr => intro k hk; have := HB2.out.size; omega
      case hbase => have := blk_lt HG2.out; omega
      case hlv => have := HV.out l[i] (List.getElem_mem _); simp only [List.length_nil]; omega
      case happ8 =>
        intro v3 w3 hR3 _ hg3 hat3
        rw [List.nil_append] at hR3
        obtain ⟨A3, c3, rfl⟩ := Kd.R_slice hR3
        have hb3 : Below w1.heap.size w1 w3 := HB2.out.grown hg3 HB2.out.size (fun k hk => by injection hk with hk; show w1.heap.size ≤ k; rw [← hk]; show w1.heap.size ≤ wr.heap.size + 1; omega)
        have HR3 := Lib.hid hR3; clear hR3
        have HB3 := Lib.hid hb3; clear hb3
        refine hK.out _ _ (SB.out _ (HB3.out.block _ (by omega))) (fun hHeld3 => ?_)
        clear hK K
        (try simp only [Act.put, List.setIfInBounds_toArray, List.set_cons_zero, List.set_cons_succ])
        refine take_ (i := 13) (oi := { dst := some 25, op := Go.Op.build 66 #[(0, Go.Operand.tmp 14), (1, Go.Operand.tmp 16), (2, Go.Operand.tmp 20), (3, Go.Operand.tmp 22), (4, Go.Operand.tmp 24)], type := 66, pos := "law.go:31", after := #[{ on := 2, ground := Go.Ground.data }, { on := 4, ground := Go.Ground.data }, { on := 8, ground := Go.Ground.data }, { on := 10, ground := Go.Ground.data }, { on := 12, ground := Go.Ground.data }], guard := none }) (v := ?v13_) #[true, true, true, true, true, true, true, true, true, true, true, true, true, true, false, false, false] rfl rfl (by kernel_rfl) (fun _ _ _ h => h) (Or.inl ⟨by rfl, ?hy13_⟩) hHeld3 rfl ?rest13_
        case hy13_ => (intro w hSw; (try dsimp only at hSw); go_simp; (first | done | with_reducible rfl))
        (try simp only [Act.put, List.setIfInBounds_toArray, List.set_cons_zero, List.set_cons_succ])
        refine one_ (i := 14) (oi := { dst := some 26, op := Go.Op.buildSlice 63 1 #[(0, Go.Operand.tmp 25)], type := 63, pos := "law.go:31", after := #[{ on := 13, ground := Go.Ground.data }], guard := none }) #[true, true, true, true, true, true, true, true, true, true, true, true, true, true, true, false, false] rfl rfl (by kernel_rfl) (by decide) (fun K hK => ?_)
        go_simp
        have sb4 : (w3.alloc (.cells #[.string l[i].f0, .string l[i].f1, .slice A3 l[i].f2.length c3, .bool l[i].f3, .int .i64 l[i].f4] 66)).heap[wr.heap.size]? = w1.heap[wr.heap.size]? := (Below.heap_alloc _ _ _ (by have := HB3.out.size; omega)).trans (HB3.out.block _ (by omega))
        refine hK.out _ _ (SB.out _ sb4) (fun hHeld4 => ?_)
        clear hK K
        (try simp only [Act.put, List.setIfInBounds_toArray, List.set_cons_zero, List.set_cons_succ])
        refine one_ (i := 15) (oi := { dst := some 27, op := Go.Op.call { callee := Go.Callee.builtin Go.Builtin.append, args := #[Go.Operand.tmp 12, Go.Operand.tmp 26], argTypes := #[63, 63] }, type := 63, pos := "law.go:31", after := #[{ on := 0, ground := Go.Ground.data }, { on := 14, ground := Go.Ground.data }, { on := 8, ground := Go.Ground.chain }], guard := none }) #[true, true, true, true, true, true, true, true, true, true, true, true, true, true, true, true, false] rfl rfl (by kernel_rfl) (by decide) (fun K hK => ?_)
        refine Kd.R_append_step k44 (w0 := w3) W.heap.size (by rfl) (.tmp 12) (.tmp 26) 63 66 (.agg #[.string ⟨#[]⟩, .string ⟨#[]⟩, .slice none 0 0, .bool false, .int .i64 0]) 72 rfl Try.underlying63 info66 rfl (by decide) (by decide) _ (l.take i) l[i] [.string l[i].f0, .string l[i].f1, .slice A3 l[i].f2.length c3, .bool l[i].f3, .int .i64 l[i].f4] (fun _ => True) (fun k => wr.heap.size + 1 ≤ k) rfl rfl ?hM ?hokp (fun _ _ => trivial) ?hO (Below.refl _ _) ?hbs ?hln ?happ
        case hM => exact k44_mkM _ _ _ l[i] (Kd.R_lower (Kd.R_mono (Kd.R_bound HR3.out) (fun k hk => hk.2.1)) (by omega))
        case hokp =>
          intro k hk
          refine ⟨trivial, fun e => ?_⟩
          have := HVL.out k e.symm
          omega
        case hO => exact Kd.R_step HR1.out (fun k _ hk => HB3.out.block k hk)
        case hbs => have := HB3.out.size; omega
        case hln => have := HLT.out; omega
        case happ =>
          intro v5 w5 hR5 _ hg5 hat5
          have sb5 : w5.heap[wr.heap.size]? = w1.heap[wr.heap.size]? := (hg5.block _ (by have := HB3.out.size; omega) (fun e => by have := HVL.out _ e.symm; omega)).trans (HB3.out.block _ (by omega))
          have hb5 : Below W.heap.size W w5 := (HB1.out.trans (HB3.out.mono (by omega))).grown hg5 (by have := HB3.out.size; omega) (fun k hk => Kd.R_base HR1.out k hk)
          have HR5 := Lib.hid hR5; clear hR5
          have HB5 := Lib.hid hb5; clear hb5
          refine hK.out _ _ (SB.out _ sb5) (fun hHeld5 => ?_)
          clear hK K
          (try simp only [Act.put, List.setIfInBounds_toArray, List.set_cons_zero, List.set_cons_succ])
          refine last_ (i := 16) (oi := { dst := some 3, op := Go.Op.assign (Go.Operand.tmp 27), type := 63, pos := "law.go:31", after := #[{ on := 15, ground := Go.Ground.data }, { on := 15, ground := Go.Ground.chain }, { on := 0, ground := Go.Ground.phase }, { on := 1, ground := Go.Ground.phase }, { on := 2, ground := Go.Ground.phase }, { on := 3, ground := Go.Ground.phase }, { on := 4, ground := Go.Ground.phase }, { on := 5, ground := Go.Ground.phase }, { on := 6, ground := Go.Ground.phase }, { on := 7, ground := Go.Ground.phase }, { on := 8, ground := Go.Ground.phase }, { on := 9, ground := Go.Ground.phase }, { on := 10, ground := Go.Ground.phase }, { on := 11, ground := Go.Ground.phase }, { on := 12, ground := Go.Ground.phase }, { on := 13, ground := Go.Ground.phase }, { on := 14, ground := Go.Ground.phase }, { on := 15, ground := Go.Ground.phase }], guard := none }) #[true, true, true, true, true, true, true, true, true, true, true, true, true, true, true, true, true] rfl rfl (by kernel_rfl) (by decide) (fun K hK => ?_)
          go_simp
          refine hK.out _ _ ?_
          clear hK K
          refine done_ (by kernel_rfl) ?_
          go_wp2_with fail
          go_roundg (l.length - (i + 1))
          case rel => exact ⟨i + 1, by omega, rfl, rfl, by rw [← List.take_append_getElem hi]; exact HR5.out, HB5.out⟩
          case measure => omega
    · have e : i = l.length := by omega
      subst e
      have HR := Lib.hid hR; clear hR
      have HB := Lib.hid hB; clear hB
      go_wp2_with fail
      go_ret
      have := HR.out
      rw [List.take_length] at this
      exact ⟨_, rfl, this, HB.out⟩
end Go.Proofs.Yteamocejpankdaa
