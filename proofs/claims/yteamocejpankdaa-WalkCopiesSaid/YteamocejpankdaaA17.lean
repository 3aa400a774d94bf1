/- The walk's Copy: the same walk, in memory of its own. For every world. -/
import Derived.Test.YteamocejpankdaaA8
import Derived.Shelf.SlMaps.Clone
import Derived.WalkSpells
namespace Go.Proofs.Yteamocejpankdaa
open Go.Proofs.YteamocejpankdaaW.PrintLast Go.RowKit Go.Shelf Go.Proofs.YteamocejpankdaaW.PrintWords Go.Proofs.Yteamocejpankdaa.PWalkCopies
set_option linter.unusedVariables false
set_option linter.unusedSimpArgs false

/-- A map's block, twice. -/
theorem SMap.copy {w W : World} {b b2 n : Nat} {f : ByteArray → Int} (h : SMap w b n f) (hb : W.heap[b2]? = w.heap[b]?) : SMap W b2 n f := by
  obtain ⟨D, ⟨es, clock, hh, r⟩, hI, hf⟩ := h
  exact ⟨D, ⟨es, clock, hb.trans hh, r⟩, hI, hf⟩
set_option maxRecDepth 100000 in
set_option maxHeartbeats 1000000 in
theorem mclone_calls (W : World) (b : Nat) (es : Array MapEntry) (clock : Nat) (hb : W.heap[b]? = some (.map es clock)) :
    Calls Try.prog 31 #[.map (some b)] W fun e w' => e = .returned (.map (some W.heap.size)) ∧ w' = W.alloc (.map es clock) := by
  have hq := fun w => run_eql_map_nil_sl (P := Try.prog) w 33 _ _ (some b) Try.underlying33
  go_enter Try.func31, Try.ntmps31
  go_wp2
  rw [run_callFunc_extern Try.func40 (by kernel_rfl) (by kernel_rfl) (by kernel_rfl) (e := Extern.MapsClone.clone) (by kernel_rfl), run_maps_clone_sl W 33 hb]
  simp only [Result.andThen]
  rw [Oper.upon_value]
  go_wp2
  rw [run_typeAssert_map_sl _ 33 20 _ _ _ Try.underlying33]
  simp only [Result.andThen]
  rw [Oper.upon_value]
  go_wp2
  go_ret
  exact ⟨rfl, rfl⟩
theorem R_rowsM {α : Type} {d : Kd α} {e base n cap : Nat} {ok : Nat → Prop} {W : World} {A : Option Addr} {xs : List α} [Inhabited α] (h : d.R e W base ok (.slice A n cap) xs) :
    ReadsRow (fun x cs => d.M W base ok x cs) d.sz W A n xs := by
  obtain ⟨hn, hnc, hC⟩ := Kd.R_reads' h
  refine ⟨hn.symm, by have := hC.2.1; omega, fun hp => ?_⟩
  obtain ⟨g, cap', he, _, _, _⟩ := Kd.R_form h (by omega)
  injection he with h1 h2 h3
  subst h1
  refine ⟨_, rfl, fun j p hj => ?_⟩
  have hjl := (List.getElem?_eq_some_iff.1 hj).1
  obtain ⟨c, hcl, hM, hcc, _⟩ := Kd.R_elem h default (j : Int) (by omega) (by omega)
  simp only [Int.toNat_natCast] at hM hcc
  rw [show xs.getD j default = p by rw [List.getD_eq_getElem?_getD, hj]; rfl] at hM
  refine ⟨c, hcl, d.M_mono (fun k hk => hk.1) hM, fun i u hu => ?_⟩
  rw [show (⟨g, 0, none⟩ : Addr).add (j * d.sz + i) = ⟨g, j * d.sz + i, none⟩ by rw [add_plain]]
  exact hcc i u hu
theorem no_steps {w : World} {base g : Nat} {ok : Nat → Prop} (hg : w.heap[g]? = some (.cells #[] 36 (0, 0))) (hb : base ≤ g) (ho : ok g) : k38.R 36 w base ok (.slice (some ⟨g, 0, none⟩) 0 0) [] :=
  ⟨fun k hk => by injection hk with hk; exact hk ▸ ho, [], ⟨rfl, .inr ⟨g, 0, _, rfl, hb, hg, Nat.le_refl _, by decide, rfl, rfl⟩⟩, Reps.none _ _⟩
set_option maxRecDepth 100000 in
set_option maxHeartbeats 1000000 in
/-- The steps, in a row of their own. -/
theorem sclone_calls (W : World) (B : Nat) (A : Option Addr) (n c : Nat) (xs : List S38) (ok : Nat → Prop) (hR : k38.R 36 W B ok (.slice A n c) xs) (hB : B ≤ W.heap.size) (hl : n ≤ 1000000000000) :
    Calls Try.prog 30 #[.slice A n c] W fun e w' => ∃ v, e = .returned v ∧ k38.R 36 w' B (fun k => ok k ∧ k < W.heap.size ∨ W.heap.size ≤ k) v xs ∧ Below W.heap.size W w' ∧ ∀ k, v.ownBlock = some k → W.heap.size ≤ k := by
  obtain ⟨hn, _, _⟩ := Kd.R_reads' hR
  subst hn
  cases A with
  | none =>
    have hq := fun (w : World) => Lib.run_eql_slice_nil (P := Try.prog) w 27 36 none xs.length c 0 0 Try.underlying27
    have hx : xs = [] := by
      rcases Nat.eq_zero_or_pos xs.length with h | h
      · exact List.eq_nil_of_length_eq_zero h
      · obtain ⟨g, cap, he, _⟩ := Kd.R_form hR h
        cases he
    subst hx
    simp only [List.length_nil] at *
    go_enter Try.func30, Try.ntmps30
    go_wp2_with fail
    go_ret
    exact ⟨_, rfl, Kd.R_nil _ _ _ _ _, Below.refl _ _, fun k hk => by simp [Value.ownBlock] at hk⟩
  | some a =>
    have hq := fun (w : World) => Lib.run_eql_slice_nil (P := Try.prog) w 27 36 (some a) xs.length c 0 0 Try.underlying27
    have HR := Lib.hid hR; clear hR
    go_enter Try.func30, Try.ntmps30
    have HO : k38.R 36 (W.alloc (.cells #[] 36)) B (fun k => ok k ∧ k < W.heap.size ∨ W.heap.size ≤ k) (.slice (some ⟨W.heap.size, 0, none⟩) 0 0) [] := no_steps (heap_alloc_new W _) hB (.inr (Nat.le_refl _))
    have HRW := R_rowsM (Kd.R_alloc (Kd.R_bound HR.out) (.cells #[] 36))
    have HOh := Lib.hid HO; clear HO
    have HRWh := Lib.hid HRW; clear HRW
    go_wp2_with ((with_reducible refine gate_builtin (b := .append) (xs := #[.tmp 5, .tmp 6]) rfl ?_); at_builtin; refine Kd.R_append_rows k38 (W := W.alloc (.cells #[] 36)) (w0 := W.alloc (.cells #[] 36)) B rfl (.tmp 5) (.tmp 6) 27 36 (.agg #[.string ⟨#[]⟩, .int .i64 0, .slice none 0 0]) 48 rfl Try.underlying27 info36 rfl (by decide) (by decide) (.slice (some ⟨W.heap.size, 0, none⟩) 0 0) [] xs (some a) xs.length c (fun k => ok k ∧ k < W.heap.size ∨ W.heap.size ≤ k) (fun k => ok k ∧ k < W.heap.size) rfl rfl HOh.out HRWh.out (fun x cs hm => k38.M_mono (fun k hk => ⟨hk.1, hk.2.2.1⟩) hm) (fun k hk => ⟨.inl hk, fun e => Nat.lt_irrefl _ (Nat.lt_of_lt_of_eq hk.2 (Option.some.inj e).symm)⟩) (fun k hk => .inr (by rw [World.size_alloc] at hk; omega)) (Below.refl _ _) (by rw [World.size_alloc]; omega) ?hln ?happ)
    case hln => rw [List.length_nil]; omega
    case happ =>
      intro v1 w1 hR1 hb1 hg1 hat1
      try rw [List.nil_append] at hR1
      have hb2 : Below W.heap.size W w1 := ((Below.refl W.heap.size W).alloc (Nat.le_refl _) _).grown hg1 (by rw [World.size_alloc]; omega) (fun k hk => by have : W.heap.size = k := Option.some.inj hk; omega)
      have ho : ∀ k, v1.ownBlock = some k → W.heap.size ≤ k := by
        intro k hk
        rcases hat1 with h | ⟨b, h, hb⟩
        · rw [h] at hk; have : W.heap.size = k := Option.some.inj hk; omega
        · rw [h] at hk; have : b = k := Option.some.inj hk; (try simp at hb); omega
      have HR1 := Lib.hid hR1; clear hR1
      have HB2 := Lib.hid hb2; clear hb2 hb1 hg1 hat1
      have HO1 := Lib.hid ho; clear ho
      go_wp2_with fail
      go_ret
      exact ⟨_, rfl, HR1.out, HB2.out, HO1.out⟩
/-- What Copy hands back. -/
def CopyPost (W : World) (B : Nat) (dep : Int) (sug : Bool) (row : List S38) (n : Nat) (came : ByteArray → Int) (e : Ending) (W' : World) : Prop :=
  ∃ gw gm vs, e = .returned (.pointer (some ⟨gw, 0, none⟩)) ∧ IsWalk W' B gw gm vs dep sug row n came ∧ Below W.heap.size W W' ∧ W.heap.size ≤ gw ∧ W.heap.size ≤ gm ∧ ∀ k, vs.ownBlock = some k → W.heap.size ≤ k
set_option maxRecDepth 100000 in
set_option maxHeartbeats 2000000 in
theorem copy_calls (W : World) (B gw gm : Nat) (vs : Value) (dep : Int) (sug : Bool) (row : List S38) (n : Nat) (came : ByteArray → Int) (h : IsWalk W B gw gm vs dep sug row n came) (hl : row.length ≤ 900000000000) :
    Calls Try.prog 16 #[.pointer (some ⟨gw, 0, none⟩)] W (CopyPost W B dep sug row n came) := by
  obtain ⟨q0, q1, q2, q3, q4⟩ := h.cells
  obtain ⟨Av, cv, rfl⟩ := Kd.R_slice h.stack
  obtain ⟨es, clock, hmb⟩ := h.map.blk
  have hgl := blk_lt h.obj
  have hml := blk_lt hmb
  have hbl : B ≤ W.heap.size := by have := h.base.1; omega
  have HS := Lib.hid h.stack
  have HM := Lib.hid h.map
  have HMB := Lib.hid hmb
  clear h hmb
  go_enter Try.func16, Try.ntmps16
  go_wp2_with fail
  refine start_ (S := (fun w' : World => Below W.heap.size W w')) (ds := [20]) #[false, false, false, false, false, false, false, false, false, false, false, false, false, false, false, false, false, false, false, false, false] rfl rfl rfl (below_drew (Below.refl _ _)) (fun hHeld => ?_)
  refine take_ (i := 0) (oi := { dst := some 3, op := Go.Op.move (Go.Operand.tmp 0), type := 52, pos := "walk.go:101", after := #[], guard := none }) (v := ?v0_c) #[true, false, false, false, false, false, false, false, false, false, false, false, false, false, false, false, false, false, false, false, false] rfl rfl (by kernel_rfl) (fun _ _ _ h => h) (Or.inl ⟨by rfl, ?hy0_c⟩) hHeld rfl ?rest0_c
  case hy0_c => (intro w hSw; have q0' := pw_cell_below hSw q0; have q1' := pw_cell_below hSw q1; have q2' := pw_cell_below hSw q2; have q3' := pw_cell_below hSw q3; clear hSw; go_simp; (first | done | with_reducible rfl))
  (try simp only [Act.put, List.setIfInBounds_toArray, List.set_cons_zero, List.set_cons_succ])
  refine take_ (i := 1) (oi := { dst := some 4, op := Go.Op.nilCheck (Go.Operand.tmp 3), type := 0, pos := "walk.go:101", after := #[{ on := 0, ground := Go.Ground.data }], guard := none }) (v := ?v1_c) #[true, true, false, false, false, false, false, false, false, false, false, false, false, false, false, false, false, false, false, false, false] rfl rfl (by kernel_rfl) (fun _ _ _ h => h) (Or.inl ⟨by rfl, ?hy1_c⟩) hHeld rfl ?rest1_c
  case hy1_c => (intro w hSw; have q0' := pw_cell_below hSw q0; have q1' := pw_cell_below hSw q1; have q2' := pw_cell_below hSw q2; have q3' := pw_cell_below hSw q3; clear hSw; go_simp; (first | done | with_reducible rfl))
  (try simp only [Act.put, List.setIfInBounds_toArray, List.set_cons_zero, List.set_cons_succ])
  refine take_ (i := 2) (oi := { dst := some 5, op := Go.Op.fieldAddr 82 (Go.Operand.tmp 4) 0, type := 0, pos := "walk.go:101", after := #[{ on := 1, ground := Go.Ground.data }], guard := none }) (v := ?v2_c) #[true, true, true, false, false, false, false, false, false, false, false, false, false, false, false, false, false, false, false, false, false] rfl rfl (by kernel_rfl) (fun _ _ _ h => h) (Or.inl ⟨by rfl, ?hy2_c⟩) hHeld rfl ?rest2_c
  case hy2_c => (intro w hSw; have q0' := pw_cell_below hSw q0; have q1' := pw_cell_below hSw q1; have q2' := pw_cell_below hSw q2; have q3' := pw_cell_below hSw q3; clear hSw; go_simp; (first | done | with_reducible rfl))
  (try simp only [Act.put, List.setIfInBounds_toArray, List.set_cons_zero, List.set_cons_succ])
  refine take_ (i := 3) (oi := { dst := some 6, op := Go.Op.load 3 (Go.Operand.tmp 5), type := 3, pos := "walk.go:101", after := #[{ on := 2, ground := Go.Ground.data }], guard := none }) (v := ?v3_c) #[true, true, true, true, false, false, false, false, false, false, false, false, false, false, false, false, false, false, false, false, false] rfl rfl (by kernel_rfl) (fun _ _ _ h => h) (Or.inl ⟨by rfl, ?hy3_c⟩) hHeld rfl ?rest3_c
  case hy3_c => (intro w hSw; have q0' := pw_cell_below hSw q0; have q1' := pw_cell_below hSw q1; have q2' := pw_cell_below hSw q2; have q3' := pw_cell_below hSw q3; clear hSw; go_simp; (first | done | with_reducible rfl))
  (try simp only [Act.put, List.setIfInBounds_toArray, List.set_cons_zero, List.set_cons_succ])
  refine take_ (i := 4) (oi := { dst := some 7, op := Go.Op.move (Go.Operand.tmp 0), type := 52, pos := "walk.go:101", after := #[], guard := none }) (v := ?v4_c) #[true, true, true, true, true, false, false, false, false, false, false, false, false, false, false, false, false, false, false, false, false] rfl rfl (by kernel_rfl) (fun _ _ _ h => h) (Or.inl ⟨by rfl, ?hy4_c⟩) hHeld rfl ?rest4_c
  case hy4_c => (intro w hSw; have q0' := pw_cell_below hSw q0; have q1' := pw_cell_below hSw q1; have q2' := pw_cell_below hSw q2; have q3' := pw_cell_below hSw q3; clear hSw; go_simp; (first | done | with_reducible rfl))
  (try simp only [Act.put, List.setIfInBounds_toArray, List.set_cons_zero, List.set_cons_succ])
  refine take_ (i := 5) (oi := { dst := some 8, op := Go.Op.nilCheck (Go.Operand.tmp 7), type := 0, pos := "walk.go:101", after := #[{ on := 4, ground := Go.Ground.data }], guard := none }) (v := ?v5_c) #[true, true, true, true, true, true, false, false, false, false, false, false, false, false, false, false, false, false, false, false, false] rfl rfl (by kernel_rfl) (fun _ _ _ h => h) (Or.inl ⟨by rfl, ?hy5_c⟩) hHeld rfl ?rest5_c
  case hy5_c => (intro w hSw; have q0' := pw_cell_below hSw q0; have q1' := pw_cell_below hSw q1; have q2' := pw_cell_below hSw q2; have q3' := pw_cell_below hSw q3; clear hSw; go_simp; (first | done | with_reducible rfl))
  (try simp only [Act.put, List.setIfInBounds_toArray, List.set_cons_zero, List.set_cons_succ])
  refine take_ (i := 6) (oi := { dst := some 9, op := Go.Op.fieldAddr 82 (Go.Operand.tmp 8) 1, type := 0, pos := "walk.go:101", after := #[{ on := 5, ground := Go.Ground.data }], guard := none }) (v := ?v6_c) #[true, true, true, true, true, true, true, false, false, false, false, false, false, false, false, false, false, false, false, false, false] rfl rfl (by kernel_rfl) (fun _ _ _ h => h) (Or.inl ⟨by rfl, ?hy6_c⟩) hHeld rfl ?rest6_c
  case hy6_c => (intro w hSw; have q0' := pw_cell_below hSw q0; have q1' := pw_cell_below hSw q1; have q2' := pw_cell_below hSw q2; have q3' := pw_cell_below hSw q3; clear hSw; go_simp; (first | done | with_reducible rfl))
  (try simp only [Act.put, List.setIfInBounds_toArray, List.set_cons_zero, List.set_cons_succ])
  refine take_ (i := 7) (oi := { dst := some 10, op := Go.Op.load 4 (Go.Operand.tmp 9), type := 4, pos := "walk.go:101", after := #[{ on := 6, ground := Go.Ground.data }], guard := none }) (v := ?v7_c) #[true, true, true, true, true, true, true, true, false, false, false, false, false, false, false, false, false, false, false, false, false] rfl rfl (by kernel_rfl) (fun _ _ _ h => h) (Or.inl ⟨by rfl, ?hy7_c⟩) hHeld rfl ?rest7_c
  case hy7_c => (intro w hSw; have q0' := pw_cell_below hSw q0; have q1' := pw_cell_below hSw q1; have q2' := pw_cell_below hSw q2; have q3' := pw_cell_below hSw q3; clear hSw; go_simp; (first | done | with_reducible rfl))
  (try simp only [Act.put, List.setIfInBounds_toArray, List.set_cons_zero, List.set_cons_succ])
  refine take_ (i := 8) (oi := { dst := some 11, op := Go.Op.move (Go.Operand.tmp 0), type := 52, pos := "walk.go:101", after := #[], guard := none }) (v := ?v8_c) #[true, true, true, true, true, true, true, true, true, false, false, false, false, false, false, false, false, false, false, false, false] rfl rfl (by kernel_rfl) (fun _ _ _ h => h) (Or.inl ⟨by rfl, ?hy8_c⟩) hHeld rfl ?rest8_c
  case hy8_c => (intro w hSw; have q0' := pw_cell_below hSw q0; have q1' := pw_cell_below hSw q1; have q2' := pw_cell_below hSw q2; have q3' := pw_cell_below hSw q3; clear hSw; go_simp; (first | done | with_reducible rfl))
  (try simp only [Act.put, List.setIfInBounds_toArray, List.set_cons_zero, List.set_cons_succ])
  refine take_ (i := 9) (oi := { dst := some 12, op := Go.Op.nilCheck (Go.Operand.tmp 11), type := 0, pos := "walk.go:101", after := #[{ on := 8, ground := Go.Ground.data }], guard := none }) (v := ?v9_c) #[true, true, true, true, true, true, true, true, true, true, false, false, false, false, false, false, false, false, false, false, false] rfl rfl (by kernel_rfl) (fun _ _ _ h => h) (Or.inl ⟨by rfl, ?hy9_c⟩) hHeld rfl ?rest9_c
  case hy9_c => (intro w hSw; have q0' := pw_cell_below hSw q0; have q1' := pw_cell_below hSw q1; have q2' := pw_cell_below hSw q2; have q3' := pw_cell_below hSw q3; clear hSw; go_simp; (first | done | with_reducible rfl))
  (try simp only [Act.put, List.setIfInBounds_toArray, List.set_cons_zero, List.set_cons_succ])
  refine take_ (i := 10) (oi := { dst := some 13, op := Go.Op.fieldAddr 82 (Go.Operand.tmp 12) 2, type := 0, pos := "walk.go:101", after := #[{ on := 9, ground := Go.Ground.data }], guard := none }) (v := ?v10_c) #[true, true, true, true, true, true, true, true, true, true, true, false, false, false, false, false, false, false, false, false, false] rfl rfl (by kernel_rfl) (fun _ _ _ h => h) (Or.inl ⟨by rfl, ?hy10_c⟩) hHeld rfl ?rest10_c
  case hy10_c => (intro w hSw; have q0' := pw_cell_below hSw q0; have q1' := pw_cell_below hSw q1; have q2' := pw_cell_below hSw q2; have q3' := pw_cell_below hSw q3; clear hSw; go_simp; (first | done | with_reducible rfl))
  (try simp only [Act.put, List.setIfInBounds_toArray, List.set_cons_zero, List.set_cons_succ])
  refine take_ (i := 11) (oi := { dst := some 14, op := Go.Op.load 27 (Go.Operand.tmp 13), type := 27, pos := "walk.go:101", after := #[{ on := 10, ground := Go.Ground.data }], guard := none }) (v := ?v11_c) #[true, true, true, true, true, true, true, true, true, true, true, true, false, false, false, false, false, false, false, false, false] rfl rfl (by kernel_rfl) (fun _ _ _ h => h) (Or.inl ⟨by rfl, ?hy11_c⟩) hHeld rfl ?rest11_c
  case hy11_c => (intro w hSw; have q0' := pw_cell_below hSw q0; have q1' := pw_cell_below hSw q1; have q2' := pw_cell_below hSw q2; have q3' := pw_cell_below hSw q3; clear hSw; go_simp; (first | done | with_reducible rfl))
  (try simp only [Act.put, List.setIfInBounds_toArray, List.set_cons_zero, List.set_cons_succ])
  refine take_ (i := 13) (oi := { dst := some 16, op := Go.Op.move (Go.Operand.tmp 0), type := 52, pos := "walk.go:101", after := #[], guard := none }) (v := ?v13_c) #[true, true, true, true, true, true, true, true, true, true, true, true, false, true, false, false, false, false, false, false, false] rfl rfl (by kernel_rfl) (fun _ _ _ h => h) (Or.inl ⟨by rfl, ?hy13_c⟩) hHeld rfl ?rest13_c
  case hy13_c => (intro w hSw; have q0' := pw_cell_below hSw q0; have q1' := pw_cell_below hSw q1; have q2' := pw_cell_below hSw q2; have q3' := pw_cell_below hSw q3; clear hSw; go_simp; (first | done | with_reducible rfl))
  (try simp only [Act.put, List.setIfInBounds_toArray, List.set_cons_zero, List.set_cons_succ])
  refine take_ (i := 14) (oi := { dst := some 17, op := Go.Op.nilCheck (Go.Operand.tmp 16), type := 0, pos := "walk.go:101", after := #[{ on := 13, ground := Go.Ground.data }], guard := none }) (v := ?v14_c) #[true, true, true, true, true, true, true, true, true, true, true, true, false, true, true, false, false, false, false, false, false] rfl rfl (by kernel_rfl) (fun _ _ _ h => h) (Or.inl ⟨by rfl, ?hy14_c⟩) hHeld rfl ?rest14_c
  case hy14_c => (intro w hSw; have q0' := pw_cell_below hSw q0; have q1' := pw_cell_below hSw q1; have q2' := pw_cell_below hSw q2; have q3' := pw_cell_below hSw q3; clear hSw; go_simp; (first | done | with_reducible rfl))
  (try simp only [Act.put, List.setIfInBounds_toArray, List.set_cons_zero, List.set_cons_succ])
  refine take_ (i := 15) (oi := { dst := some 18, op := Go.Op.fieldAddr 82 (Go.Operand.tmp 17) 3, type := 0, pos := "walk.go:101", after := #[{ on := 14, ground := Go.Ground.data }], guard := none }) (v := ?v15_c) #[true, true, true, true, true, true, true, true, true, true, true, true, false, true, true, true, false, false, false, false, false] rfl rfl (by kernel_rfl) (fun _ _ _ h => h) (Or.inl ⟨by rfl, ?hy15_c⟩) hHeld rfl ?rest15_c
  case hy15_c => (intro w hSw; have q0' := pw_cell_below hSw q0; have q1' := pw_cell_below hSw q1; have q2' := pw_cell_below hSw q2; have q3' := pw_cell_below hSw q3; clear hSw; go_simp; (first | done | with_reducible rfl))
  (try simp only [Act.put, List.setIfInBounds_toArray, List.set_cons_zero, List.set_cons_succ])
  refine take_ (i := 16) (oi := { dst := some 19, op := Go.Op.load 33 (Go.Operand.tmp 18), type := 33, pos := "walk.go:101", after := #[{ on := 15, ground := Go.Ground.data }], guard := none }) (v := ?v16_c) #[true, true, true, true, true, true, true, true, true, true, true, true, false, true, true, true, true, false, false, false, false] rfl rfl (by kernel_rfl) (fun _ _ _ h => h) (Or.inl ⟨by rfl, ?hy16_c⟩) hHeld rfl ?rest16_c
  case hy16_c => (intro w hSw; have q0' := pw_cell_below hSw q0; have q1' := pw_cell_below hSw q1; have q2' := pw_cell_below hSw q2; have q3' := pw_cell_below hSw q3; clear hSw; go_simp; (first | done | with_reducible rfl))
  (try simp only [Act.put, List.setIfInBounds_toArray, List.set_cons_zero, List.set_cons_succ])
  refine one_ (i := 12) (oi := { dst := some 15, op := Go.Op.call { callee := Go.Callee.value (Go.Operand.func 30), args := #[Go.Operand.tmp 14], argTypes := #[27] }, type := 27, pos := "walk.go:101", after := #[{ on := 11, ground := Go.Ground.data }], guard := none }) #[true, true, true, true, true, true, true, true, true, true, true, true, true, true, true, true, true, false, false, false, false] rfl rfl (by kernel_rfl) (by decide) (fun K hK => ?_)
  go_simp
  refine (sclone_calls _ B Av row.length cv row.reverse (okW gw gm) (Kd.R_drew (by have h := HS.out; rw [List.length_reverse] at h; exact h)) hbl (by omega)).mono ?_
  rintro e w1 ⟨v1, rfl, hR1, hb1, ho1⟩
  have hB1 : Below W.heap.size W w1 := (below_drew (Below.refl _ W)).trans hb1
  have HB1 := Lib.hid hB1
  have HR1 := Lib.hid hR1
  have HO1 := Lib.hid ho1
  clear hR1 ho1 hb1
  obtain ⟨A1, c1, hv1⟩ := Kd.R_slice HR1.out
  rw [List.length_reverse] at hv1
  subst hv1
  refine hK.out _ _ hB1 (fun hHeld2 => ?_)
  clear hK K
  (try simp only [Act.put, List.setIfInBounds_toArray, List.set_cons_zero, List.set_cons_succ])
  refine one_ (i := 17) (oi := { dst := some 20, op := Go.Op.call { callee := Go.Callee.value (Go.Operand.func 31), args := #[Go.Operand.tmp 19], argTypes := #[33] }, type := 33, pos := "walk.go:101", after := #[{ on := 16, ground := Go.Ground.data }, { on := 12, ground := Go.Ground.chain }], guard := none }) #[true, true, true, true, true, true, true, true, true, true, true, true, true, true, true, true, true, true, false, false, false] rfl rfl (by kernel_rfl) (by decide) (fun K hK => ?_)
  go_simp
  refine (mclone_calls _ gm es clock ((HB1.out.block _ hml).trans HMB.out)).mono ?_
  rintro e w2 ⟨rfl, rfl⟩
  have hB2 := below_alloc HB1.out (.map es clock)
  have HB2 := Lib.hid hB2
  refine hK.out _ _ hB2 (fun hHeld3 => ?_)
  clear hK K hB2
  (try simp only [Act.put, List.setIfInBounds_toArray, List.set_cons_zero, List.set_cons_succ])
  refine take_ (i := 18) (oi := { dst := some 21, op := Go.Op.build 82 #[(0, Go.Operand.tmp 6), (1, Go.Operand.tmp 10), (2, Go.Operand.tmp 15), (3, Go.Operand.tmp 20)], type := 82, pos := "walk.go:101", after := #[{ on := 3, ground := Go.Ground.data }, { on := 7, ground := Go.Ground.data }, { on := 12, ground := Go.Ground.data }, { on := 17, ground := Go.Ground.data }], guard := none }) (v := ?v18_c) #[true, true, true, true, true, true, true, true, true, true, true, true, true, true, true, true, true, true, true, false, false] rfl rfl (by kernel_rfl) (fun _ _ _ h => h) (Or.inl ⟨by rfl, ?hy18_c⟩) hHeld3 rfl ?rest18_c
  case hy18_c => (intro w hSw; clear hSw; go_simp; (first | done | with_reducible rfl))
  (try simp only [Act.put, List.setIfInBounds_toArray, List.set_cons_zero, List.set_cons_succ])
  refine one_ (i := 19) (oi := { dst := some 22, op := Go.Op.box 82 (Go.Operand.tmp 21), type := 52, pos := "walk.go:101", after := #[{ on := 18, ground := Go.Ground.data }], guard := none }) #[true, true, true, true, true, true, true, true, true, true, true, true, true, true, true, true, true, true, true, true, false] rfl rfl (by kernel_rfl) (by decide) (fun K hK => ?_)
  go_simp
  have hB3 := below_alloc HB2.out (.cells #[.int .i64 dep, .bool sug, .slice A1 row.length c1, .map (some w1.heap.size)] 82)
  have HB3 := Lib.hid hB3
  refine hK.out _ _ hB3 (fun hHeld4 => ?_)
  clear hK K hB3
  (try simp only [Act.put, List.setIfInBounds_toArray, List.set_cons_zero, List.set_cons_succ])
  refine last_ (i := 20) (oi := { dst := some 2, op := Go.Op.assign (Go.Operand.tmp 22), type := 52, pos := "walk.go:101", after := #[{ on := 19, ground := Go.Ground.data }, { on := 17, ground := Go.Ground.chain }, { on := 0, ground := Go.Ground.phase }, { on := 1, ground := Go.Ground.phase }, { on := 2, ground := Go.Ground.phase }, { on := 3, ground := Go.Ground.phase }, { on := 4, ground := Go.Ground.phase }, { on := 5, ground := Go.Ground.phase }, { on := 6, ground := Go.Ground.phase }, { on := 7, ground := Go.Ground.phase }, { on := 8, ground := Go.Ground.phase }, { on := 9, ground := Go.Ground.phase }, { on := 10, ground := Go.Ground.phase }, { on := 11, ground := Go.Ground.phase }, { on := 12, ground := Go.Ground.phase }, { on := 13, ground := Go.Ground.phase }, { on := 14, ground := Go.Ground.phase }, { on := 15, ground := Go.Ground.phase }, { on := 16, ground := Go.Ground.phase }, { on := 17, ground := Go.Ground.phase }, { on := 18, ground := Go.Ground.phase }, { on := 19, ground := Go.Ground.phase }], guard := none }) #[true, true, true, true, true, true, true, true, true, true, true, true, true, true, true, true, true, true, true, true, true] rfl rfl (by kernel_rfl) (by decide) (fun K hK => ?_)
  go_simp
  refine hK.out _ _ ?_
  clear hK K
  refine done_ (by kernel_rfl) ?_
  go_wp2_with fail
  go_ret
  have hs1 := HB1.out.size
  have hw2 : (w1.alloc (.map es clock)).heap.size = w1.heap.size + 1 := World.size_alloc _ _
  have hm3 := heap_alloc_new w1 (.map es clock)
  refine ⟨w1.heap.size + 1, w1.heap.size, .slice A1 row.length c1, rfl, ⟨⟨by omega, by omega, fun k hk => hk⟩, ?_, ?_, ?_⟩, HB3.out, by omega, hs1, HO1.out⟩
  · have := heap_alloc_new (w1.alloc (.map es clock)) (.cells #[.int .i64 dep, .bool sug, .slice A1 row.length c1, .map (some w1.heap.size)] 82)
    rw [hw2] at this
    exact this
  · exact HM.out.copy ((Below.heap_alloc _ _ _ (by omega)).trans (hm3.trans HMB.out.symm))
  · refine Kd.R_alloc (Kd.R_alloc (Kd.R_mono (Kd.R_bound HR1.out) (fun k hk => ?_)) _) _
    exact ⟨by have := hk.2.2.1; omega, by have := hk.2.2.1; omega⟩
end Go.Proofs.Yteamocejpankdaa
