/- WalkAlls: the walk of the law's own code. For every world. -/
import Derived.Test.YteamocejpankdaaA14
import Derived.Test.YteamocejpankdaaB4
import Derived.Test.YteamocejpankdaaPWalkCopiesx2
namespace Go.Proofs.Yteamocejpankdaa
open Go.Proofs.YteamocejpankdaaW.PrintLast Go.RowKit Go.Shelf Go.Proofs.YteamocejpankdaaW.PrintWords Go.Proofs.Yteamocejpankdaa.PWalkCopies
set_option linter.unusedVariables false
set_option linter.unusedSimpArgs false

def TPost (W : World) (e : Ending) (W' : World) : Prop := e = .returned (.bool true) ∧ Kept W W' (fun _ => False)
theorem few_calls (A : Option Addr) (c : Nat) (l : List S41) (W : World) (b : Nat) (ok : Nat → Prop) (hV : Kd.V k41 41 W b ok (.slice A l.length c) l) (hl : l.length ≤ 9223372036854775807) (hc : ∀ f ∈ l, f.f2.length ≤ 9223372036854775807) :
    Calls Try.prog 7 #[.slice A l.length c] W fun e w' => e = .returned (.bool (fewB l)) ∧ Below W.heap.size W w' := by
  obtain ⟨k, hk⟩ := few_f l hl hc
  obtain ⟨_, h2, h3⟩ := Kd.V_reads' hV
  exact enfiladelaw20_Few.calls k A c l (fewB l) W h3 h2 hk
theorem step_cells {W : World} {ok : Nat → Prop} {A : Option Addr} {l : List S38} (h : Kd.F k38 W ok A l.length l) (hp : 0 < l.length) : ∃ b o, A = some ⟨b, o, none⟩ ∧ ∀ j (hj : j < l.length), ∃ A2 c2,
    W.cell? ⟨b, o + j * 3, none⟩ = some (.string l[j].f0) ∧ W.cell? ⟨b, o + j * 3 + 1, none⟩ = some (.int .i64 l[j].f1) ∧ W.cell? ⟨b, o + j * 3 + 2, none⟩ = some (.slice A2 l[j].f2.length c2) ∧ Kd.F Kd.string W ok A2 l[j].f2.length l[j].f2 ∧ l[j].f2.length ≤ c2 := by
  obtain ⟨b, o, hA, _⟩ := read_plain (Kd.F_now h) hp (by decide)
  refine ⟨b, o, hA, fun j hj => ?_⟩
  obtain ⟨ad, c, hA', hcl, hK, hcc, hok⟩ := Kd.F_get h default (j : Int) (by omega) (by omega)
  rw [hA] at hA'
  injection hA' with hA'
  subst hA'
  simp only [Int.toNat_natCast] at hK hcc
  rw [show l.getD j default = l[j] by rw [List.getD_eq_getElem?_getD, List.getElem?_eq_getElem hj]; rfl] at hK
  obtain ⟨A2, c2, rfl, h2, g2⟩ := k38_openF hK
  have hc' : ∀ t u, ([Value.string l[j].f0, .int .i64 l[j].f1, .slice A2 l[j].f2.length c2] : List Value)[t]? = some u → W.cell? ⟨b, o + j * 3 + t, none⟩ = some u := fun t u hu => by
    have := hcc t u hu
    rw [show (⟨b, o, none⟩ : Addr).add (j * k38.sz + t) = ⟨b, o + j * 3 + t, none⟩ by show (⟨b, o, none⟩ : Addr).add (j * 3 + t) = _; unfold Addr.add; split <;> simp <;> omega] at this
    exact this
  exact ⟨A2, c2, hc' 0 _ rfl, hc' 1 _ rfl, hc' 2 _ rfl, g2, h2⟩
def depF (xs : List S38) : ByteArray → Int := xs.foldl (fun f s => upd f s.f0 (s.f1 + 1)) (fun _ => 0)
theorem depF_snoc (xs : List S38) (s : S38) : depF (xs ++ [s]) = upd (depF xs) s.f0 (s.f1 + 1) := by unfold depF; rw [List.foldl_append]; rfl
theorem depF_out {room : ByteArray} : ∀ (xs : List S38) (f : ByteArray → Int), room ∉ xs.map S38.f0 → xs.foldl (fun f s => upd f s.f0 (s.f1 + 1)) f room = f room := by
  intro xs
  induction xs with
  | nil => intro f _; rfl
  | cons s xs ih =>
    intro f h
    rw [List.map_cons, List.mem_cons, not_or] at h
    rw [List.foldl_cons, ih _ h.2]
    unfold upd
    rw [if_neg h.1]
theorem depF_new {lo : List S38} (h : (lo.map S38.f0).Nodup) {i : Nat} (hi : i < lo.length) : depF (lo.take i) lo[i].f0 = 0 := by
  unfold depF
  rw [depF_out]
  intro hm
  rw [List.mem_map] at hm
  obtain ⟨s, hs, he⟩ := hm
  obtain ⟨j, hj, hjs⟩ := List.mem_iff_getElem.1 hs
  rw [List.length_take] at hj
  rw [List.getElem_take] at hjs
  exact List.pairwise_iff_getElem.1 h j i (by rw [List.length_map]; omega) (by rw [List.length_map]; exact hi) (by omega) (by rw [List.getElem_map, List.getElem_map, hjs, he])
theorem cell_keep {w W : World} {a : Addr} {v : Value} (h : w.cell? a = some v) (hk : Kept w W (fun _ => False)) : W.cell? a = some v :=
  (World.cell?_of_block (hk.2 a.block (World.block_lt_of_cell? w a h) (fun h => h))).trans h
theorem cell_of_heap {w W : World} (h : w.heap = W.heap) : ∀ p, w.cell? p = W.cell? p := fun p => World.cell?_of_block (by rw [h])
theorem cell_below_alloc {w : World} {a : Addr} {v : Value} (h : w.cell? a = some v) (o : Obj) : (w.alloc o).cell? a = some v := (World.cell?_alloc_lt _ _ _ (World.block_lt_of_cell? w a h)).trans h
theorem Kd.C_drew2 {α : Type} {d : Kd α} {w : World} {A : Option Addr} {n : Nat} {xs : List α} (h : d.C w A n xs) : d.C w.drew A n xs := Kd.C_below h (below_drew (Below.refl _ _))
theorem strings_l0 (l : List ByteArray) (hl : l.length ≤ 1000000) : ∀ n i, l.length - i = n → i ≤ l.length → ∀ k, n < k → enfiladeref05_Strings.l0 k l l (l.length : Int) (i : Int) = some true := by
  intro n
  induction n with
  | zero =>
    intro i h1 h2 k hk
    obtain ⟨k, rfl⟩ : ∃ m, k = m + 1 := ⟨k - 1, by omega⟩
    simp only [enfiladeref05_Strings.l0]
    rw [if_neg (by omega)]
  | succ n ih =>
    intro i h1 h2 k hk
    obtain ⟨k, rfl⟩ : ∃ m, k = m + 1 := ⟨k - 1, by omega⟩
    simp only [enfiladeref05_Strings.l0]
    rw [if_pos (by omega), if_pos (by omega), if_pos (by omega), if_pos (by omega), if_pos trivial, show wrap64 ((i : Int) + 1) = ((i + 1 : Nat) : Int) by unfold wrap64; omega]
    exact ih (i + 1) (by omega) (by omega) k (by omega)
theorem is_f (s : S38) (hl : s.f2.length ≤ 8) : ∃ k, enfiladelaw20_Is.f k s.f0 s.f1 s.f2 s.f0 s.f1 s.f2 = some true := by
  refine ⟨s.f2.length + 1, ?_⟩
  have h := strings_l0 s.f2 (by omega) s.f2.length 0 (by omega) (by omega) (s.f2.length + 1) (by omega)
  unfold enfiladelaw20_Is.f enfiladeref05_Strings.f
  rw [if_pos rfl, if_pos rfl, if_pos rfl]
  refine (congrArg (Option.bind · _) h).trans ?_
  rfl
theorem few_out {l : List S41} (h : fewB l = true) {root : ByteArray} (hr : root.size ≤ 150) (depth : Int) (sug : Bool) : ∃ out lo, (newB root depth = true → Tells (askM l) depth sug [⟨root, 0, []⟩] [] out) ∧ out.length ≤ 300 ∧ (lo = if newB root depth = true then out else []) ∧ lo.length ≤ 300 ∧
    (∀ s ∈ lo, Good depth s ∧ depth ≤ 10) ∧ (lo.map S38.f0).Nodup ∧ ∀ i (hi : i < lo.length), foundB (askM l) sug root (lo.take i) lo[i] = true := by
  cases hn : newB root depth with
  | false => exact ⟨[], [], fun h => by simp at h, by simp, by simp, by simp, fun s hs => (by cases hs), List.nodup_nil, fun i hi => by simp at hi⟩
  | true =>
    have hd : 0 ≤ depth ∧ depth ≤ 10 := by
      unfold newB at hn
      simp only [Bool.and_eq_true, decide_eq_true_eq] at hn
      exact ⟨hn.1.2, hn.2⟩
    obtain ⟨out, h1, h2, h3⟩ := few_tells h hr hd.1 hd.2 sug
    have h4 := alls_law (askM l) depth sug root h1
    exact ⟨out, out, fun _ => h1, h2, by rw [if_pos rfl], h2, fun s hs => ⟨h3 s hs, hd.2⟩, h4.1, h4.2⟩
set_option maxRecDepth 100000 in
set_option maxHeartbeats 2000000 in
theorem walkAlls_calls (W : World) (A : Option Addr) (c : Nat) (l : List S41) (ok : Nat → Prop) (hV : Kd.V k41 41 W 0 ok (.slice A l.length c) l) (root : ByteArray) (depth frm : Int) (sug : Bool) (hl : l.length ≤ 9223372036854775807) (hc : ∀ f ∈ l, f.f2.length ≤ 9223372036854775807) (hr : root.size ≤ 9223372036854775807) :
    Calls Try.prog 3 #[.slice A l.length c, .agg #[.string root, .int .i64 depth, .int .i64 frm, .bool sug]] W (TPost W) := by
  have HV := Lib.hid hV; clear hV
  cases hf : fewB l with
  | false =>
    have HF := Lib.hid hf; clear hf
    go_enter Try.func3, Try.ntmps3
    go_wp2_with fail
    refine (awake_calls _).mono ?_
    rintro e w1 ⟨rfl, hk1⟩
    have hk := (Kept.alloc (Kept.refl W (fun _ => False)) (.cells #[.string root, .int .i64 depth, .int .i64 frm, .bool sug] 24)).then_ hk1 (fun _ h => h.elim)
    have HK := Lib.hid hk; clear hk hk1
    go_wp2_with fail
    refine (few_calls A c l _ 0 ok (Kd.V_kept HV.out HK.out (fun _ _ h => h)) hl hc).mono ?_
    rintro e w2 ⟨rfl, hb2⟩
    rw [HF.out]
    have hk2 := HK.out.below hb2
    have HK2 := Lib.hid hk2; clear hk2 hb2
    go_wp2_with fail
    refine (awake_calls _).mono ?_
    rintro e w3 ⟨rfl, hk3⟩
    have hk3 := HK2.out.then_ hk3 (fun _ h => h.elim)
    have HK3 := Lib.hid hk3; clear hk3
    go_wp2_with fail
    go_ret
    exact ⟨rfl, HK3.out⟩
  | true =>
    have HF := Lib.hid hf; clear hf
    go_enter Try.func3, Try.ntmps3
    go_wp2_with fail
    have hbx := heap_alloc_new W (.cells #[.string root, .int .i64 depth, .int .i64 frm, .bool sug] 24)
    have HBX := Lib.hid hbx; clear hbx
    have hsz : (W.alloc (.cells #[.string root, .int .i64 depth, .int .i64 frm, .bool sug] 24)).heap.size = W.heap.size + 1 := World.size_alloc _ _
    have HSZ := Lib.hid hsz; clear hsz
    refine (awake_calls _).mono ?_
    rintro e w1 ⟨rfl, hk1⟩
    have hk := (Kept.alloc (Kept.refl W (fun _ => False)) (.cells #[.string root, .int .i64 depth, .int .i64 frm, .bool sug] 24)).then_ hk1 (fun _ h => h.elim)
    have hb1 := (hk1.2 W.heap.size (by have := HSZ.out; omega) (fun h => h)).trans HBX.out
    have HK := Lib.hid hk; clear hk hk1
    have HB1 := Lib.hid hb1; clear hb1
    go_wp2_with fail
    refine (few_calls A c l _ 0 ok (Kd.V_kept HV.out HK.out (fun _ _ h => h)) hl hc).mono ?_
    rintro e w2 ⟨rfl, hb2⟩
    rw [HF.out]
    have hx2 := (hb2.block _ (blk_lt HB1.out)).trans HB1.out
    have hk2 := HK.out.below hb2
    have HK2 := Lib.hid hk2; clear hk2 hb2
    have a0 := (blk_cell hx2 0).trans rfl
    have a1 := (blk_cell hx2 1).trans rfl
    have a3 := (blk_cell hx2 3).trans rfl
    have HX2 := Lib.hid hx2; clear hx2
    clear HBX HSZ HK HB1
    by_cases hr1 : 150 < root.size
    · go_wp2_with fail
      refine (awake_calls _).mono ?_
      rintro e w3 ⟨rfl, hk3⟩
      have hk3 := HK2.out.then_ hk3 (fun _ h => h.elim)
      have HK3 := Lib.hid hk3; clear hk3
      go_wp2_with fail
      go_ret
      exact ⟨rfl, HK3.out⟩
    · go_wp2_with fail
      obtain ⟨out, lo, hT, hol, hlo, hlol, hgood, hnd, hfnd⟩ := few_out HF.out (show root.size ≤ 150 by omega) depth sug
      have HT := Lib.hid hT; clear hT
      have HLO := Lib.hid hlo; clear hlo
      have HGD := Lib.hid hgood; clear hgood
      have HND := Lib.hid hnd; clear hnd
      have HFD := Lib.hid hfnd; clear hfnd
      have hxl := blk_lt HX2.out
      have SB : ∀ X : World, X.heap[W.heap.size]? = w2.heap[W.heap.size]? → X.cell? ⟨W.heap.size, 0, none⟩ = some (.string root) ∧ X.cell? ⟨W.heap.size, 1, none⟩ = some (.int .i64 depth) ∧ X.cell? ⟨W.heap.size, 3, none⟩ = some (.bool sug) := fun X h => ⟨(World.cell?_of_block h).trans a0, (World.cell?_of_block h).trans a1, (World.cell?_of_block h).trans a3⟩
      have SB := Lib.hid SB
      refine start_ (S := (fun w' : World => w'.cell? ⟨W.heap.size, 0, none⟩ = some (.string root) ∧ w'.cell? ⟨W.heap.size, 1, none⟩ = some (.int .i64 depth) ∧ w'.cell? ⟨W.heap.size, 3, none⟩ = some (.bool sug))) (ds := [9]) #[false, false, false, false, false, false, false, false, false, false] rfl rfl rfl ⟨a0, a1, a3⟩ (fun hHeld => ?_)
      refine take_ (i := 0) (oi := { dst := some 29, op := Go.Op.fieldAddr 24 (Go.Operand.tmp 3) 0, type := 0, pos := "law.go:107", after := #[], guard := none }) (v := ?v0_a) #[true, false, false, false, false, false, false, false, false, false] rfl rfl (by kernel_rfl) (fun _ _ _ h => h) (Or.inl ⟨by rfl, ?hy0_a⟩) (by assumption) rfl ?rest0_a
      case hy0_a => (intro w hSw; (try dsimp only at hSw); go_simp; (first | done | with_reducible rfl))
      (try simp only [Act.put, List.setIfInBounds_toArray, List.set_cons_zero, List.set_cons_succ])
      refine take_ (i := 1) (oi := { dst := some 30, op := Go.Op.load 9 (Go.Operand.tmp 29), type := 9, pos := "law.go:107", after := #[{ on := 0, ground := Go.Ground.data }], guard := none }) (v := ?v1_a) #[true, true, false, false, false, false, false, false, false, false] rfl rfl (by kernel_rfl) (fun _ _ _ h => h) (Or.inl ⟨by rfl, ?hy1_a⟩) (by assumption) rfl ?rest1_a
      case hy1_a => (intro w hSw; (try dsimp only at hSw); go_simp; (first | done | with_reducible rfl))
      (try simp only [Act.put, List.setIfInBounds_toArray, List.set_cons_zero, List.set_cons_succ])
      refine take_ (i := 2) (oi := { dst := some 31, op := Go.Op.fieldAddr 24 (Go.Operand.tmp 3) 1, type := 0, pos := "law.go:107", after := #[], guard := none }) (v := ?v2_a) #[true, true, true, false, false, false, false, false, false, false] rfl rfl (by kernel_rfl) (fun _ _ _ h => h) (Or.inl ⟨by rfl, ?hy2_a⟩) (by assumption) rfl ?rest2_a
      case hy2_a => (intro w hSw; (try dsimp only at hSw); go_simp; (first | done | with_reducible rfl))
      (try simp only [Act.put, List.setIfInBounds_toArray, List.set_cons_zero, List.set_cons_succ])
      refine take_ (i := 3) (oi := { dst := some 32, op := Go.Op.load 3 (Go.Operand.tmp 31), type := 3, pos := "law.go:107", after := #[{ on := 2, ground := Go.Ground.data }], guard := none }) (v := ?v3_a) #[true, true, true, true, false, false, false, false, false, false] rfl rfl (by kernel_rfl) (fun _ _ _ h => h) (Or.inl ⟨by rfl, ?hy3_a⟩) (by assumption) rfl ?rest3_a
      case hy3_a => (intro w hSw; (try dsimp only at hSw); go_simp; (first | done | with_reducible rfl))
      (try simp only [Act.put, List.setIfInBounds_toArray, List.set_cons_zero, List.set_cons_succ])
      refine take_ (i := 4) (oi := { dst := some 33, op := Go.Op.fieldAddr 24 (Go.Operand.tmp 3) 3, type := 0, pos := "law.go:107", after := #[], guard := none }) (v := ?v4_a) #[true, true, true, true, true, false, false, false, false, false] rfl rfl (by kernel_rfl) (fun _ _ _ h => h) (Or.inl ⟨by rfl, ?hy4_a⟩) (by assumption) rfl ?rest4_a
      case hy4_a => (intro w hSw; (try dsimp only at hSw); go_simp; (first | done | with_reducible rfl))
      (try simp only [Act.put, List.setIfInBounds_toArray, List.set_cons_zero, List.set_cons_succ])
      refine take_ (i := 5) (oi := { dst := some 34, op := Go.Op.load 4 (Go.Operand.tmp 33), type := 4, pos := "law.go:107", after := #[{ on := 4, ground := Go.Ground.data }], guard := none }) (v := ?v5_a) #[true, true, true, true, true, true, false, false, false, false] rfl rfl (by kernel_rfl) (fun _ _ _ h => h) (Or.inl ⟨by rfl, ?hy5_a⟩) (by assumption) rfl ?rest5_a
      case hy5_a => (intro w hSw; (try dsimp only at hSw); go_simp; (first | done | with_reducible rfl))
      (try simp only [Act.put, List.setIfInBounds_toArray, List.set_cons_zero, List.set_cons_succ])
      refine take_ (i := 6) (oi := { dst := some 35, op := Go.Op.move (Go.Operand.tmp 0), type := 22, pos := "law.go:107", after := #[], guard := none }) (v := ?v6_a) #[true, true, true, true, true, true, true, false, false, false] rfl rfl (by kernel_rfl) (fun _ _ _ h => h) (Or.inl ⟨by rfl, ?hy6_a⟩) (by assumption) rfl ?rest6_a
      case hy6_a => (intro w hSw; (try dsimp only at hSw); go_simp; (first | done | with_reducible rfl))
      (try simp only [Act.put, List.setIfInBounds_toArray, List.set_cons_zero, List.set_cons_succ])
      refine one_ (i := 7) (oi := { dst := some 36, op := Go.Op.call { callee := Go.Callee.value (Go.Operand.func 9), args := #[Go.Operand.tmp 35], argTypes := #[22] }, type := 29, pos := "law.go:107", after := #[{ on := 6, ground := Go.Ground.data }], guard := none }) #[true, true, true, true, true, true, true, true, false, false] rfl rfl (by kernel_rfl) (by decide) (fun K hK => ?_)
      go_simp
      refine (mkask_calls _ A l.length c).mono ?_
      rintro e w3 ⟨rfl, rfl⟩
      have hk3 : Kept w2 (w2.drew.alloc (.cells #[.slice A l.length c] 22)) (fun _ => False) := (Kept.refl w2 _).drew.alloc _
      have hAF : AskFn 18 #[.pointer (some ⟨w2.heap.size, 0, none⟩)] (askM l) (w2.drew.alloc (.cells #[.slice A l.length c] 22)) :=
        askFn_of (ok := ok) (heap_alloc_new w2.drew _) (Kd.V_alloc (Kd.V_drew (Kd.V_kept HV.out HK2.out (fun _ _ h => h))) _) (by have := few_len HF.out; omega) (fewOk_of HF.out)
      have HAF := Lib.hid hAF; clear hAF
      have HK3 := Lib.hid hk3; clear hk3
      refine hK.out _ _ (SB.out _ (HK3.out.2 _ hxl (fun h => h))) (fun hHeld7 => ?_)
      clear hK K
      (try simp only [Act.put, List.setIfInBounds_toArray, List.set_cons_zero, List.set_cons_succ])
      refine one_ (i := 8) (oi := { dst := some 37, op := Go.Op.call { callee := Go.Callee.value (Go.Operand.func 8), args := #[Go.Operand.tmp 30, Go.Operand.tmp 32, Go.Operand.tmp 34, Go.Operand.tmp 36], argTypes := #[9, 3, 4, 29] }, type := 27, pos := "law.go:107", after := #[{ on := 1, ground := Go.Ground.data }, { on := 3, ground := Go.Ground.data }, { on := 5, ground := Go.Ground.data }, { on := 7, ground := Go.Ground.data }, { on := 7, ground := Go.Ground.chain }], guard := none }) #[true, true, true, true, true, true, true, true, true, false] rfl rfl (by kernel_rfl) (by decide) (fun K hK => ?_)
      go_simp
      refine (all_walk_calls _ root depth sug (by unfold maxLen; omega) 18 #[.pointer (some ⟨w2.heap.size, 0, none⟩)] (askM l) _ (Kept.refl _ _) HAF.out (fewOk_of HF.out) out HT.out (by omega) lo HLO.out).mono ?_
      rintro e w4 ⟨v4, rfl, hR4, hk4⟩
      obtain ⟨A4, c4, rfl⟩ := Kd.R_slice hR4
      have hK4 : Kept w2 w4 (fun _ => False) := (HK3.out).then_ hk4 (fun _ h => h.elim)
      have HK4 := Lib.hid hK4; clear hK4 hk4
      have HR4 := Lib.hid hR4; clear hR4
      refine hK.out _ _ (SB.out _ (HK4.out.2 _ hxl (fun h => h))) (fun hHeld8 => ?_)
      clear hK K
      (try simp only [Act.put, List.setIfInBounds_toArray, List.set_cons_zero, List.set_cons_succ])
      refine last_ (i := 9) (oi := { dst := some 5, op := Go.Op.assign (Go.Operand.tmp 37), type := 27, pos := "law.go:107", after := #[{ on := 8, ground := Go.Ground.data }, { on := 8, ground := Go.Ground.chain }, { on := 0, ground := Go.Ground.phase }, { on := 1, ground := Go.Ground.phase }, { on := 2, ground := Go.Ground.phase }, { on := 3, ground := Go.Ground.phase }, { on := 4, ground := Go.Ground.phase }, { on := 5, ground := Go.Ground.phase }, { on := 6, ground := Go.Ground.phase }, { on := 7, ground := Go.Ground.phase }, { on := 8, ground := Go.Ground.phase }], guard := none }) #[true, true, true, true, true, true, true, true, true, true] rfl rfl (by kernel_rfl) (by decide) (fun K hK => ?_)
      go_simp
      refine hK.out _ _ ?_
      clear hK K
      refine done_ (by kernel_rfl) ?_
      have hx4 := (HK4.out.2 _ hxl (fun h => h)).trans HX2.out
      clear a0 a1 a3 hHeld hHeld7 hHeld8
      have a0 := (blk_cell hx4 0).trans rfl
      have a1 := (blk_cell hx4 1).trans rfl
      have a3 := (blk_cell hx4 3).trans rfl
      have HX4 := Lib.hid hx4; clear hx4
      have hk4 := HK2.out.then_ HK4.out (fun _ h => h.elim)
      have HK5 := Lib.hid hk4; clear hk4
      clear SB HK3
      go_wp2_with fail
      refine (refAll_calls _ root depth sug (by omega) A c l ok (Kd.V_kept HV.out HK5.out (fun _ _ h => h)) (by have := few_len HF.out; omega) (fewOk_of HF.out) out HT.out (by omega) lo HLO.out).mono ?_
      rintro e w5 ⟨v5, rfl, hN5, hb5⟩
      obtain ⟨A5, c5, rfl⟩ := Kd.N_slice hN5
      have hx5 := (hb5.block _ (blk_lt HX4.out)).trans HX4.out
      have hR5 := Kd.R_below HR4.out hb5
      have hk5 := HK5.out.below hb5
      have HN5 := Lib.hid hN5; clear hN5
      have HR5 := Lib.hid hR5; clear hR5
      have HK6 := Lib.hid hk5; clear hk5 hb5
      clear a0 a1 a3
      have a0 := (blk_cell hx5 0).trans rfl
      have a1 := (blk_cell hx5 1).trans rfl
      have a3 := (blk_cell hx5 3).trans rfl
      have HX5 := Lib.hid hx5; clear hx5
      have hmk : ∀ w : World, (Instr.makeMap 33 none).run Try.prog w = .ok (.map (some w.heap.size)) (w.alloc (.map #[] 0)) := fun w => by rfl
      go_wp2_with fail
      clear hmk
      have FR := Lib.hid (Kd.F_bound (Kd.R_F HR5.out))
      have FN := Lib.hid (Kd.F_bound (Kd.N_F HN5.out))
      go_loopg [54] lo.length (fun kq t54 wr => ∃ i : Nat, i ≤ lo.length ∧ t54 = .int .i64 (i : Int) ∧ kq = lo.length - i ∧ SMap wr w5.heap.size i (depF (lo.take i)) ∧ Kept w5 wr (fun _ => False))
      case atStart => exact ⟨0, Nat.zero_le _, rfl, rfl, SMap.made _, (Kept.refl _ _).alloc _⟩
      case round =>
        obtain ⟨i, hil, rfl, rfl, hM, hK⟩ := hrel
        have HM := Lib.hid hM; clear hM
        have HKR := Lib.hid hK; clear hK
        by_cases hi : i < lo.length
        · obtain ⟨bR, oR, hAR, hcR⟩ := step_cells FR.out (by omega)
          obtain ⟨bN, oN, hAN, hcN⟩ := step_cells FN.out (by omega)
          have HCR := Lib.hid hcR
          obtain ⟨A6, c6, e0, e1, e2, hF6, hc6⟩ := hcR i hi
          obtain ⟨A7, c7, f0, f1, f2, hF7, hc7⟩ := hcN i hi
          clear hcR hcN
          subst hAR hAN
          have e0 := cell_keep e0 HKR.out
          have e1 := cell_keep e1 HKR.out
          have e2 := cell_keep e2 HKR.out
          have f0 := cell_keep f0 HKR.out
          have f1 := cell_keep f1 HKR.out
          have f2 := cell_keep f2 HKR.out
          have HF6 := Lib.hid hF6; clear hF6
          have HF7 := Lib.hid hF7; clear hF7
          obtain ⟨hGi, hd10⟩ := HGD.out lo[i] (List.getElem_mem hi)
          have HSI := Lib.hid (show lo.take (i + 1) = lo.take i ++ [lo[i]] from List.take_succ_eq_append_getElem hi)
          have HD0 := Lib.hid (depF_new HND.out hi)
          have HFI := Lib.hid (HFD.out i hi)
          generalize hs : lo[i] = s at *
          have HS := Lib.hid hs; clear hs
          have hs1 := hGi.2.1
          have hs2 := hGi.2.2.1
          have HGI := Lib.hid hGi; clear hGi
          go_wp2_with fail
          have hx8 := (HKR.out.2 _ (blk_lt HX5.out) (fun h => h)).trans HX5.out
          have hX8 : (wr.alloc (.cells #[.string s.f0, .int .i64 s.f1, .slice A6 s.f2.length c6] 36)).heap[W.heap.size]? = _ := (Below.heap_alloc _ _ _ (blk_lt hx8)).trans hx8
          have hbx := heap_alloc_new wr (.cells #[.string s.f0, .int .i64 s.f1, .slice A6 s.f2.length c6] 36)
          have hM8 : SMap (wr.alloc (.cells #[.string s.f0, .int .i64 s.f1, .slice A6 s.f2.length c6] 36)) w5.heap.size i (depF (lo.take i)) := HM.out.step (Below.heap_alloc _ _ _ HM.out.lt)
          have hK8 : Kept w5 (wr.alloc (.cells #[.string s.f0, .int .i64 s.f1, .slice A6 s.f2.length c6] 36)) (fun _ => False) := HKR.out.alloc _
          have hs8 : (wr.alloc (.cells #[.string s.f0, .int .i64 s.f1, .slice A6 s.f2.length c6] 36)).heap.size = wr.heap.size + 1 := World.size_alloc _ _
          have hf0 := cell_below_alloc f0 (.cells #[.string s.f0, .int .i64 s.f1, .slice A6 s.f2.length c6] 36)
          have hf1 := cell_below_alloc f1 (.cells #[.string s.f0, .int .i64 s.f1, .slice A6 s.f2.length c6] 36)
          have hf2 := cell_below_alloc f2 (.cells #[.string s.f0, .int .i64 s.f1, .slice A6 s.f2.length c6] 36)
          clear hx8
          clear e0 e1 e2 f0 f1 f2 a0 a1 a3
          generalize (wr.alloc (.cells #[.string s.f0, .int .i64 s.f1, .slice A6 s.f2.length c6] 36)) = w8 at *
          have HC6 := Lib.hid (Kd.F_now (Kd.F_kept HF6.out hK8 (fun _ _ h => h)))
          have HC7 := Lib.hid (Kd.F_now (Kd.F_kept HF7.out hK8 (fun _ _ h => h)))
          have a0 := (blk_cell hX8 0).trans rfl
          have a1 := (blk_cell hX8 1).trans rfl
          have a3 := (blk_cell hX8 3).trans rfl
          have q0 := (blk_cell hbx 0).trans rfl
          have q1 := (blk_cell hbx 1).trans rfl
          have q2 := (blk_cell hbx 2).trans rfl
          have HX8 := Lib.hid hX8; clear hX8
          have HBX := Lib.hid hbx; clear hbx
          have HM8 := Lib.hid hM8; clear hM8
          have HK8 := Lib.hid hK8; clear hK8
          have HS8 := Lib.hid hs8; clear hs8
          have HSF := Lib.hid (show s.f0.size ≤ maxLen from Nat.le_trans HGI.out.1 (by decide))
          refine start_ (S := (fun w' : World => Below w8.heap.size w8 w')) (ds := [25]) #[false, false, false, false, false, false, false, false, false, false, false, false, false, false, false, false, false, false, false, false, false, false, false, false, false, false] rfl rfl rfl (below_drew (Below.refl _ _)) (fun hHeld => ?_)
          refine take_ (i := 0) (oi := { dst := some 59, op := Go.Op.load 36 (Go.Operand.tmp 9), type := 36, pos := "law.go:114", after := #[], guard := none }) (v := ?v0_b) #[true, false, false, false, false, false, false, false, false, false, false, false, false, false, false, false, false, false, false, false, false, false, false, false, false, false] rfl rfl (by kernel_rfl) (fun _ _ _ h => h) (Or.inl ⟨by rfl, ?hy0_b⟩) hHeld rfl ?rest0_b
          case hy0_b => (intro w hSw; have q0' := pw_cell_below hSw q0; have q1' := pw_cell_below hSw q1; have q2' := pw_cell_below hSw q2; have hf0' := pw_cell_below hSw hf0; have hf1' := pw_cell_below hSw hf1; have hf2' := pw_cell_below hSw hf2; have a1' := pw_cell_below hSw a1; have hlk := (HM8.out.step (w' := w) (hSw.block _ HM8.out.lt)).look s.f0 HSF.out; rw [HD0.out] at hlk; have hd1 : decide (s.f1 < 0) = false := decide_eq_false (by omega); have hd2 : decide (depth < s.f1) = false := decide_eq_false (by omega); clear hSw; go_simp; (first | done | with_reducible rfl))
          (try simp only [Act.put, List.setIfInBounds_toArray, List.set_cons_zero, List.set_cons_succ])
          refine take_ (i := 1) (oi := { dst := some 60, op := Go.Op.move (Go.Operand.tmp 6), type := 31, pos := "law.go:114", after := #[], guard := none }) (v := ?v1_b) #[true, true, false, false, false, false, false, false, false, false, false, false, false, false, false, false, false, false, false, false, false, false, false, false, false, false] rfl rfl (by kernel_rfl) (fun _ _ _ h => h) (Or.inl ⟨by rfl, ?hy1_b⟩) hHeld rfl ?rest1_b
          case hy1_b => (intro w hSw; have q0' := pw_cell_below hSw q0; have q1' := pw_cell_below hSw q1; have q2' := pw_cell_below hSw q2; have hf0' := pw_cell_below hSw hf0; have hf1' := pw_cell_below hSw hf1; have hf2' := pw_cell_below hSw hf2; have a1' := pw_cell_below hSw a1; have hlk := (HM8.out.step (w' := w) (hSw.block _ HM8.out.lt)).look s.f0 HSF.out; rw [HD0.out] at hlk; have hd1 : decide (s.f1 < 0) = false := decide_eq_false (by omega); have hd2 : decide (depth < s.f1) = false := decide_eq_false (by omega); clear hSw; go_simp; (first | done | with_reducible rfl))
          (try simp only [Act.put, List.setIfInBounds_toArray, List.set_cons_zero, List.set_cons_succ])
          refine take_ (i := 2) (oi := { dst := some 61, op := Go.Op.move (Go.Operand.tmp 8), type := 3, pos := "law.go:114", after := #[], guard := none }) (v := ?v2_b) #[true, true, true, false, false, false, false, false, false, false, false, false, false, false, false, false, false, false, false, false, false, false, false, false, false, false] rfl rfl (by kernel_rfl) (fun _ _ _ h => h) (Or.inl ⟨by rfl, ?hy2_b⟩) hHeld rfl ?rest2_b
          case hy2_b => (intro w hSw; have q0' := pw_cell_below hSw q0; have q1' := pw_cell_below hSw q1; have q2' := pw_cell_below hSw q2; have hf0' := pw_cell_below hSw hf0; have hf1' := pw_cell_below hSw hf1; have hf2' := pw_cell_below hSw hf2; have a1' := pw_cell_below hSw a1; have hlk := (HM8.out.step (w' := w) (hSw.block _ HM8.out.lt)).look s.f0 HSF.out; rw [HD0.out] at hlk; have hd1 : decide (s.f1 < 0) = false := decide_eq_false (by omega); have hd2 : decide (depth < s.f1) = false := decide_eq_false (by omega); clear hSw; go_simp; (first | done | with_reducible rfl))
          (try simp only [Act.put, List.setIfInBounds_toArray, List.set_cons_zero, List.set_cons_succ])
          refine take_ (i := 3) (oi := { dst := some 62, op := Go.Op.indexAddr 31 (Go.Operand.tmp 60) (Go.Operand.tmp 61), type := 0, pos := "law.go:114", after := #[{ on := 1, ground := Go.Ground.data }, { on := 2, ground := Go.Ground.data }], guard := none }) (v := ?v3_b) #[true, true, true, true, false, false, false, false, false, false, false, false, false, false, false, false, false, false, false, false, false, false, false, false, false, false] rfl rfl (by kernel_rfl) (fun _ _ _ h => h) (Or.inl ⟨by rfl, ?hy3_b⟩) hHeld rfl ?rest3_b
          case hy3_b => (intro w hSw; have q0' := pw_cell_below hSw q0; have q1' := pw_cell_below hSw q1; have q2' := pw_cell_below hSw q2; have hf0' := pw_cell_below hSw hf0; have hf1' := pw_cell_below hSw hf1; have hf2' := pw_cell_below hSw hf2; have a1' := pw_cell_below hSw a1; have hlk := (HM8.out.step (w' := w) (hSw.block _ HM8.out.lt)).look s.f0 HSF.out; rw [HD0.out] at hlk; have hd1 : decide (s.f1 < 0) = false := decide_eq_false (by omega); have hd2 : decide (depth < s.f1) = false := decide_eq_false (by omega); clear hSw; go_simp; (first | done | with_reducible rfl))
          (try simp only [Act.put, List.setIfInBounds_toArray, List.set_cons_zero, List.set_cons_succ])
          refine take_ (i := 4) (oi := { dst := some 63, op := Go.Op.load 38 (Go.Operand.tmp 62), type := 38, pos := "law.go:114", after := #[{ on := 3, ground := Go.Ground.data }], guard := none }) (v := ?v4_b) #[true, true, true, true, true, false, false, false, false, false, false, false, false, false, false, false, false, false, false, false, false, false, false, false, false, false] rfl rfl (by kernel_rfl) (fun _ _ _ h => h) (Or.inl ⟨by rfl, ?hy4_b⟩) hHeld rfl ?rest4_b
          case hy4_b => (intro w hSw; have q0' := pw_cell_below hSw q0; have q1' := pw_cell_below hSw q1; have q2' := pw_cell_below hSw q2; have hf0' := pw_cell_below hSw hf0; have hf1' := pw_cell_below hSw hf1; have hf2' := pw_cell_below hSw hf2; have a1' := pw_cell_below hSw a1; have hlk := (HM8.out.step (w' := w) (hSw.block _ HM8.out.lt)).look s.f0 HSF.out; rw [HD0.out] at hlk; have hd1 : decide (s.f1 < 0) = false := decide_eq_false (by omega); have hd2 : decide (depth < s.f1) = false := decide_eq_false (by omega); clear hSw; go_simp; (first | done | with_reducible rfl))
          (try simp only [Act.put, List.setIfInBounds_toArray, List.set_cons_zero, List.set_cons_succ])
          refine one_ (i := 5) (oi := { dst := some 64, op := Go.Op.call { callee := Go.Callee.value (Go.Operand.func 11), args := #[Go.Operand.tmp 59, Go.Operand.tmp 63], argTypes := #[36, 38] }, type := 4, pos := "law.go:114", after := #[{ on := 0, ground := Go.Ground.data }, { on := 4, ground := Go.Ground.data }], guard := none }) #[true, true, true, true, true, true, false, false, false, false, false, false, false, false, false, false, false, false, false, false, false, false, false, false, false, false] rfl rfl (by kernel_rfl) (by decide) (fun K hK => ?_)
          go_simp
          obtain ⟨kis, his⟩ := is_f s (by have := HGI.out.2.2.2; omega)
          refine (enfiladelaw20_Is.calls kis s.f0 s.f1 A6 c6 s.f2 s.f0 s.f1 A7 c7 s.f2 true _ (Kd.C_drew2 HC6.out) hc6 (Kd.C_drew2 HC7.out) hc7 his).mono ?_
          rintro e w9 ⟨rfl, hd9⟩
          have hb9 : Below w8.heap.size w8 w9 := (below_drew (Below.refl _ w8)).trans hd9
          have HB9 := Lib.hid hb9
          clear his hd9
          refine hK.out _ _ hb9 (fun hHeld5b => ?_)
          clear hK K hb9
          (try simp only [Act.put, List.setIfInBounds_toArray, List.set_cons_zero, List.set_cons_succ])
          refine take_ (i := 6) (oi := { dst := some 65, op := Go.Op.unOp Go.UnOp.not 4 (Go.Operand.tmp 64), type := 4, pos := "law.go:114", after := #[{ on := 5, ground := Go.Ground.data }], guard := none }) (v := ?v6_b) #[true, true, true, true, true, true, true, false, false, false, false, false, false, false, false, false, false, false, false, false, false, false, false, false, false, false] rfl rfl (by kernel_rfl) (fun _ _ _ h => h) (Or.inl ⟨by rfl, ?hy6_b⟩) hHeld5b rfl ?rest6_b
          case hy6_b => (intro w hSw; have q0' := pw_cell_below hSw q0; have q1' := pw_cell_below hSw q1; have q2' := pw_cell_below hSw q2; have hf0' := pw_cell_below hSw hf0; have hf1' := pw_cell_below hSw hf1; have hf2' := pw_cell_below hSw hf2; have a1' := pw_cell_below hSw a1; have hlk := (HM8.out.step (w' := w) (hSw.block _ HM8.out.lt)).look s.f0 HSF.out; rw [HD0.out] at hlk; have hd1 : decide (s.f1 < 0) = false := decide_eq_false (by omega); have hd2 : decide (depth < s.f1) = false := decide_eq_false (by omega); clear hSw; go_simp; (first | done | with_reducible rfl))
          (try simp only [Act.put, List.setIfInBounds_toArray, List.set_cons_zero, List.set_cons_succ])
          refine take_ (i := 7) (oi := { dst := some 66, op := Go.Op.move (Go.Operand.tmp 65), type := 4, pos := "law.go:114", after := #[{ on := 6, ground := Go.Ground.data }, { on := 5, ground := Go.Ground.chain }], guard := none }) (v := ?v7_b) #[true, true, true, true, true, true, true, true, false, false, false, false, false, false, false, false, false, false, false, false, false, false, false, false, false, false] rfl rfl (by kernel_rfl) (fun _ _ _ h => h) (Or.inl ⟨by rfl, ?hy7_b⟩) hHeld5b rfl ?rest7_b
          case hy7_b => (intro w hSw; have q0' := pw_cell_below hSw q0; have q1' := pw_cell_below hSw q1; have q2' := pw_cell_below hSw q2; have hf0' := pw_cell_below hSw hf0; have hf1' := pw_cell_below hSw hf1; have hf2' := pw_cell_below hSw hf2; have a1' := pw_cell_below hSw a1; have hlk := (HM8.out.step (w' := w) (hSw.block _ HM8.out.lt)).look s.f0 HSF.out; rw [HD0.out] at hlk; have hd1 : decide (s.f1 < 0) = false := decide_eq_false (by omega); have hd2 : decide (depth < s.f1) = false := decide_eq_false (by omega); clear hSw; go_simp; (first | done | with_reducible rfl))
          (try simp only [Act.put, List.setIfInBounds_toArray, List.set_cons_zero, List.set_cons_succ])
          refine take_ (i := 8) (oi := { dst := some 67, op := Go.Op.fieldAddr 36 (Go.Operand.tmp 9) 1, type := 0, pos := "law.go:114", after := #[{ on := 7, ground := Go.Ground.guard }], guard := some (7, false) }) (v := ?v8_b) #[true, true, true, true, true, true, true, true, true, false, false, false, false, false, false, false, false, false, false, false, false, false, false, false, false, false] rfl rfl (by kernel_rfl) (fun _ _ _ h => h) (Or.inl ⟨by rfl, ?hy8_b⟩) hHeld5b rfl ?rest8_b
          case hy8_b => (intro w hSw; have q0' := pw_cell_below hSw q0; have q1' := pw_cell_below hSw q1; have q2' := pw_cell_below hSw q2; have hf0' := pw_cell_below hSw hf0; have hf1' := pw_cell_below hSw hf1; have hf2' := pw_cell_below hSw hf2; have a1' := pw_cell_below hSw a1; have hlk := (HM8.out.step (w' := w) (hSw.block _ HM8.out.lt)).look s.f0 HSF.out; rw [HD0.out] at hlk; have hd1 : decide (s.f1 < 0) = false := decide_eq_false (by omega); have hd2 : decide (depth < s.f1) = false := decide_eq_false (by omega); clear hSw; go_simp; (first | done | with_reducible rfl))
          (try simp only [Act.put, List.setIfInBounds_toArray, List.set_cons_zero, List.set_cons_succ])
          refine take_ (i := 9) (oi := { dst := some 68, op := Go.Op.load 3 (Go.Operand.tmp 67), type := 3, pos := "law.go:114", after := #[{ on := 8, ground := Go.Ground.data }, { on := 7, ground := Go.Ground.guard }], guard := some (7, false) }) (v := ?v9_b) #[true, true, true, true, true, true, true, true, true, true, false, false, false, false, false, false, false, false, false, false, false, false, false, false, false, false] rfl rfl (by kernel_rfl) (fun _ _ _ h => h) (Or.inl ⟨by rfl, ?hy9_b⟩) hHeld5b rfl ?rest9_b
          case hy9_b => (intro w hSw; have q0' := pw_cell_below hSw q0; have q1' := pw_cell_below hSw q1; have q2' := pw_cell_below hSw q2; have hf0' := pw_cell_below hSw hf0; have hf1' := pw_cell_below hSw hf1; have hf2' := pw_cell_below hSw hf2; have a1' := pw_cell_below hSw a1; have hlk := (HM8.out.step (w' := w) (hSw.block _ HM8.out.lt)).look s.f0 HSF.out; rw [HD0.out] at hlk; have hd1 : decide (s.f1 < 0) = false := decide_eq_false (by omega); have hd2 : decide (depth < s.f1) = false := decide_eq_false (by omega); clear hSw; go_simp; (first | done | with_reducible rfl))
          (try simp only [Act.put, List.setIfInBounds_toArray, List.set_cons_zero, List.set_cons_succ])
          refine take_ (i := 10) (oi := { dst := some 69, op := Go.Op.binOp Go.BinOp.lss 3 (Go.Operand.tmp 68) (Go.Operand.const (Go.Value.int Go.IntKind.i64 0)) 3, type := 4, pos := "law.go:114", after := #[{ on := 9, ground := Go.Ground.data }, { on := 7, ground := Go.Ground.guard }], guard := some (7, false) }) (v := .bool false) #[true, true, true, true, true, true, true, true, true, true, true, false, false, false, false, false, false, false, false, false, false, false, false, false, false, false] rfl rfl (by kernel_rfl) (fun _ _ _ h => h) (Or.inl ⟨by rfl, ?hy10_b⟩) hHeld5b rfl ?rest10_b
          case hy10_b => (intro w hSw; have q0' := pw_cell_below hSw q0; have q1' := pw_cell_below hSw q1; have q2' := pw_cell_below hSw q2; have hf0' := pw_cell_below hSw hf0; have hf1' := pw_cell_below hSw hf1; have hf2' := pw_cell_below hSw hf2; have a1' := pw_cell_below hSw a1; have hlk := (HM8.out.step (w' := w) (hSw.block _ HM8.out.lt)).look s.f0 HSF.out; rw [HD0.out] at hlk; have hd1 : decide (s.f1 < 0) = false := decide_eq_false (by omega); have hd2 : decide (depth < s.f1) = false := decide_eq_false (by omega); clear hSw; go_simp; (first | done | with_reducible rfl))
          (try simp only [Act.put, List.setIfInBounds_toArray, List.set_cons_zero, List.set_cons_succ])
          refine take_ (i := 11) (oi := { dst := some 70, op := Go.Op.pick (Go.Operand.tmp 66) (Go.Operand.const (Go.Value.bool true)) (Go.Operand.tmp 69), type := 4, pos := "law.go:114", after := #[{ on := 7, ground := Go.Ground.data }, { on := 10, ground := Go.Ground.data }], guard := none }) (v := .bool false) #[true, true, true, true, true, true, true, true, true, true, true, true, false, false, false, false, false, false, false, false, false, false, false, false, false, false] rfl rfl (by kernel_rfl) (fun _ _ _ h => h) (Or.inl ⟨by rfl, ?hy11_b⟩) hHeld5b rfl ?rest11_b
          case hy11_b => (intro w hSw; have q0' := pw_cell_below hSw q0; have q1' := pw_cell_below hSw q1; have q2' := pw_cell_below hSw q2; have hf0' := pw_cell_below hSw hf0; have hf1' := pw_cell_below hSw hf1; have hf2' := pw_cell_below hSw hf2; have a1' := pw_cell_below hSw a1; have hlk := (HM8.out.step (w' := w) (hSw.block _ HM8.out.lt)).look s.f0 HSF.out; rw [HD0.out] at hlk; have hd1 : decide (s.f1 < 0) = false := decide_eq_false (by omega); have hd2 : decide (depth < s.f1) = false := decide_eq_false (by omega); clear hSw; go_simp; (first | done | with_reducible rfl))
          (try simp only [Act.put, List.setIfInBounds_toArray, List.set_cons_zero, List.set_cons_succ])
          refine take_ (i := 12) (oi := { dst := some 71, op := Go.Op.move (Go.Operand.tmp 70), type := 4, pos := "law.go:114", after := #[{ on := 11, ground := Go.Ground.data }, { on := 7, ground := Go.Ground.chain }], guard := none }) (v := .bool false) #[true, true, true, true, true, true, true, true, true, true, true, true, true, false, false, false, false, false, false, false, false, false, false, false, false, false] rfl rfl (by kernel_rfl) (fun _ _ _ h => h) (Or.inl ⟨by rfl, ?hy12_b⟩) hHeld5b rfl ?rest12_b
          case hy12_b => (intro w hSw; have q0' := pw_cell_below hSw q0; have q1' := pw_cell_below hSw q1; have q2' := pw_cell_below hSw q2; have hf0' := pw_cell_below hSw hf0; have hf1' := pw_cell_below hSw hf1; have hf2' := pw_cell_below hSw hf2; have a1' := pw_cell_below hSw a1; have hlk := (HM8.out.step (w' := w) (hSw.block _ HM8.out.lt)).look s.f0 HSF.out; rw [HD0.out] at hlk; have hd1 : decide (s.f1 < 0) = false := decide_eq_false (by omega); have hd2 : decide (depth < s.f1) = false := decide_eq_false (by omega); clear hSw; go_simp; (first | done | with_reducible rfl))
          (try simp only [Act.put, List.setIfInBounds_toArray, List.set_cons_zero, List.set_cons_succ])
          refine take_ (i := 13) (oi := { dst := some 72, op := Go.Op.fieldAddr 36 (Go.Operand.tmp 9) 1, type := 0, pos := "law.go:114", after := #[{ on := 12, ground := Go.Ground.guard }], guard := some (12, false) }) (v := ?v13_b) #[true, true, true, true, true, true, true, true, true, true, true, true, true, true, false, false, false, false, false, false, false, false, false, false, false, false] rfl rfl (by kernel_rfl) (fun _ _ _ h => h) (Or.inl ⟨by rfl, ?hy13_b⟩) hHeld5b rfl ?rest13_b
          case hy13_b => (intro w hSw; have q0' := pw_cell_below hSw q0; have q1' := pw_cell_below hSw q1; have q2' := pw_cell_below hSw q2; have hf0' := pw_cell_below hSw hf0; have hf1' := pw_cell_below hSw hf1; have hf2' := pw_cell_below hSw hf2; have a1' := pw_cell_below hSw a1; have hlk := (HM8.out.step (w' := w) (hSw.block _ HM8.out.lt)).look s.f0 HSF.out; rw [HD0.out] at hlk; have hd1 : decide (s.f1 < 0) = false := decide_eq_false (by omega); have hd2 : decide (depth < s.f1) = false := decide_eq_false (by omega); clear hSw; go_simp; (first | done | with_reducible rfl))
          (try simp only [Act.put, List.setIfInBounds_toArray, List.set_cons_zero, List.set_cons_succ])
          refine take_ (i := 14) (oi := { dst := some 73, op := Go.Op.load 3 (Go.Operand.tmp 72), type := 3, pos := "law.go:114", after := #[{ on := 13, ground := Go.Ground.data }, { on := 12, ground := Go.Ground.guard }], guard := some (12, false) }) (v := ?v14_b) #[true, true, true, true, true, true, true, true, true, true, true, true, true, true, true, false, false, false, false, false, false, false, false, false, false, false] rfl rfl (by kernel_rfl) (fun _ _ _ h => h) (Or.inl ⟨by rfl, ?hy14_b⟩) hHeld5b rfl ?rest14_b
          case hy14_b => (intro w hSw; have q0' := pw_cell_below hSw q0; have q1' := pw_cell_below hSw q1; have q2' := pw_cell_below hSw q2; have hf0' := pw_cell_below hSw hf0; have hf1' := pw_cell_below hSw hf1; have hf2' := pw_cell_below hSw hf2; have a1' := pw_cell_below hSw a1; have hlk := (HM8.out.step (w' := w) (hSw.block _ HM8.out.lt)).look s.f0 HSF.out; rw [HD0.out] at hlk; have hd1 : decide (s.f1 < 0) = false := decide_eq_false (by omega); have hd2 : decide (depth < s.f1) = false := decide_eq_false (by omega); clear hSw; go_simp; (first | done | with_reducible rfl))
          (try simp only [Act.put, List.setIfInBounds_toArray, List.set_cons_zero, List.set_cons_succ])
          refine take_ (i := 15) (oi := { dst := some 74, op := Go.Op.fieldAddr 24 (Go.Operand.tmp 3) 1, type := 0, pos := "law.go:114", after := #[{ on := 12, ground := Go.Ground.guard }], guard := some (12, false) }) (v := ?v15_b) #[true, true, true, true, true, true, true, true, true, true, true, true, true, true, true, true, false, false, false, false, false, false, false, false, false, false] rfl rfl (by kernel_rfl) (fun _ _ _ h => h) (Or.inl ⟨by rfl, ?hy15_b⟩) hHeld5b rfl ?rest15_b
          case hy15_b => (intro w hSw; have q0' := pw_cell_below hSw q0; have q1' := pw_cell_below hSw q1; have q2' := pw_cell_below hSw q2; have hf0' := pw_cell_below hSw hf0; have hf1' := pw_cell_below hSw hf1; have hf2' := pw_cell_below hSw hf2; have a1' := pw_cell_below hSw a1; have hlk := (HM8.out.step (w' := w) (hSw.block _ HM8.out.lt)).look s.f0 HSF.out; rw [HD0.out] at hlk; have hd1 : decide (s.f1 < 0) = false := decide_eq_false (by omega); have hd2 : decide (depth < s.f1) = false := decide_eq_false (by omega); clear hSw; go_simp; (first | done | with_reducible rfl))
          (try simp only [Act.put, List.setIfInBounds_toArray, List.set_cons_zero, List.set_cons_succ])
          refine take_ (i := 16) (oi := { dst := some 75, op := Go.Op.load 3 (Go.Operand.tmp 74), type := 3, pos := "law.go:114", after := #[{ on := 15, ground := Go.Ground.data }, { on := 12, ground := Go.Ground.guard }], guard := some (12, false) }) (v := ?v16_b) #[true, true, true, true, true, true, true, true, true, true, true, true, true, true, true, true, true, false, false, false, false, false, false, false, false, false] rfl rfl (by kernel_rfl) (fun _ _ _ h => h) (Or.inl ⟨by rfl, ?hy16_b⟩) hHeld5b rfl ?rest16_b
          case hy16_b => (intro w hSw; have q0' := pw_cell_below hSw q0; have q1' := pw_cell_below hSw q1; have q2' := pw_cell_below hSw q2; have hf0' := pw_cell_below hSw hf0; have hf1' := pw_cell_below hSw hf1; have hf2' := pw_cell_below hSw hf2; have a1' := pw_cell_below hSw a1; have hlk := (HM8.out.step (w' := w) (hSw.block _ HM8.out.lt)).look s.f0 HSF.out; rw [HD0.out] at hlk; have hd1 : decide (s.f1 < 0) = false := decide_eq_false (by omega); have hd2 : decide (depth < s.f1) = false := decide_eq_false (by omega); clear hSw; go_simp; (first | done | with_reducible rfl))
          (try simp only [Act.put, List.setIfInBounds_toArray, List.set_cons_zero, List.set_cons_succ])
          refine take_ (i := 17) (oi := { dst := some 76, op := Go.Op.binOp Go.BinOp.gtr 3 (Go.Operand.tmp 73) (Go.Operand.tmp 75) 3, type := 4, pos := "law.go:114", after := #[{ on := 14, ground := Go.Ground.data }, { on := 16, ground := Go.Ground.data }, { on := 12, ground := Go.Ground.guard }], guard := some (12, false) }) (v := .bool false) #[true, true, true, true, true, true, true, true, true, true, true, true, true, true, true, true, true, true, false, false, false, false, false, false, false, false] rfl rfl (by kernel_rfl) (fun _ _ _ h => h) (Or.inl ⟨by rfl, ?hy17_b⟩) hHeld5b rfl ?rest17_b
          case hy17_b => (intro w hSw; have q0' := pw_cell_below hSw q0; have q1' := pw_cell_below hSw q1; have q2' := pw_cell_below hSw q2; have hf0' := pw_cell_below hSw hf0; have hf1' := pw_cell_below hSw hf1; have hf2' := pw_cell_below hSw hf2; have a1' := pw_cell_below hSw a1; have hlk := (HM8.out.step (w' := w) (hSw.block _ HM8.out.lt)).look s.f0 HSF.out; rw [HD0.out] at hlk; have hd1 : decide (s.f1 < 0) = false := decide_eq_false (by omega); have hd2 : decide (depth < s.f1) = false := decide_eq_false (by omega); clear hSw; go_simp; (first | done | with_reducible rfl))
          (try simp only [Act.put, List.setIfInBounds_toArray, List.set_cons_zero, List.set_cons_succ])
          refine take_ (i := 18) (oi := { dst := some 77, op := Go.Op.pick (Go.Operand.tmp 71) (Go.Operand.const (Go.Value.bool true)) (Go.Operand.tmp 76), type := 4, pos := "law.go:114", after := #[{ on := 12, ground := Go.Ground.data }, { on := 17, ground := Go.Ground.data }], guard := none }) (v := .bool false) #[true, true, true, true, true, true, true, true, true, true, true, true, true, true, true, true, true, true, true, false, false, false, false, false, false, false] rfl rfl (by kernel_rfl) (fun _ _ _ h => h) (Or.inl ⟨by rfl, ?hy18_b⟩) hHeld5b rfl ?rest18_b
          case hy18_b => (intro w hSw; have q0' := pw_cell_below hSw q0; have q1' := pw_cell_below hSw q1; have q2' := pw_cell_below hSw q2; have hf0' := pw_cell_below hSw hf0; have hf1' := pw_cell_below hSw hf1; have hf2' := pw_cell_below hSw hf2; have a1' := pw_cell_below hSw a1; have hlk := (HM8.out.step (w' := w) (hSw.block _ HM8.out.lt)).look s.f0 HSF.out; rw [HD0.out] at hlk; have hd1 : decide (s.f1 < 0) = false := decide_eq_false (by omega); have hd2 : decide (depth < s.f1) = false := decide_eq_false (by omega); clear hSw; go_simp; (first | done | with_reducible rfl))
          (try simp only [Act.put, List.setIfInBounds_toArray, List.set_cons_zero, List.set_cons_succ])
          refine take_ (i := 19) (oi := { dst := some 78, op := Go.Op.move (Go.Operand.tmp 77), type := 4, pos := "law.go:114", after := #[{ on := 18, ground := Go.Ground.data }, { on := 12, ground := Go.Ground.chain }], guard := none }) (v := .bool false) #[true, true, true, true, true, true, true, true, true, true, true, true, true, true, true, true, true, true, true, true, false, false, false, false, false, false] rfl rfl (by kernel_rfl) (fun _ _ _ h => h) (Or.inl ⟨by rfl, ?hy19_b⟩) hHeld5b rfl ?rest19_b
          case hy19_b => (intro w hSw; have q0' := pw_cell_below hSw q0; have q1' := pw_cell_below hSw q1; have q2' := pw_cell_below hSw q2; have hf0' := pw_cell_below hSw hf0; have hf1' := pw_cell_below hSw hf1; have hf2' := pw_cell_below hSw hf2; have a1' := pw_cell_below hSw a1; have hlk := (HM8.out.step (w' := w) (hSw.block _ HM8.out.lt)).look s.f0 HSF.out; rw [HD0.out] at hlk; have hd1 : decide (s.f1 < 0) = false := decide_eq_false (by omega); have hd2 : decide (depth < s.f1) = false := decide_eq_false (by omega); clear hSw; go_simp; (first | done | with_reducible rfl))
          (try simp only [Act.put, List.setIfInBounds_toArray, List.set_cons_zero, List.set_cons_succ])
          refine take_ (i := 20) (oi := { dst := some 79, op := Go.Op.move (Go.Operand.tmp 7), type := 33, pos := "law.go:114", after := #[{ on := 19, ground := Go.Ground.guard }], guard := some (19, false) }) (v := ?v20_b) #[true, true, true, true, true, true, true, true, true, true, true, true, true, true, true, true, true, true, true, true, true, false, false, false, false, false] rfl rfl (by kernel_rfl) (fun _ _ _ h => h) (Or.inl ⟨by rfl, ?hy20_b⟩) hHeld5b rfl ?rest20_b
          case hy20_b => (intro w hSw; have q0' := pw_cell_below hSw q0; have q1' := pw_cell_below hSw q1; have q2' := pw_cell_below hSw q2; have hf0' := pw_cell_below hSw hf0; have hf1' := pw_cell_below hSw hf1; have hf2' := pw_cell_below hSw hf2; have a1' := pw_cell_below hSw a1; have hlk := (HM8.out.step (w' := w) (hSw.block _ HM8.out.lt)).look s.f0 HSF.out; rw [HD0.out] at hlk; have hd1 : decide (s.f1 < 0) = false := decide_eq_false (by omega); have hd2 : decide (depth < s.f1) = false := decide_eq_false (by omega); clear hSw; go_simp; (first | done | with_reducible rfl))
          (try simp only [Act.put, List.setIfInBounds_toArray, List.set_cons_zero, List.set_cons_succ])
          refine take_ (i := 21) (oi := { dst := some 80, op := Go.Op.fieldAddr 36 (Go.Operand.tmp 9) 0, type := 0, pos := "law.go:114", after := #[{ on := 19, ground := Go.Ground.guard }], guard := some (19, false) }) (v := ?v21_b) #[true, true, true, true, true, true, true, true, true, true, true, true, true, true, true, true, true, true, true, true, true, true, false, false, false, false] rfl rfl (by kernel_rfl) (fun _ _ _ h => h) (Or.inl ⟨by rfl, ?hy21_b⟩) hHeld5b rfl ?rest21_b
          case hy21_b => (intro w hSw; have q0' := pw_cell_below hSw q0; have q1' := pw_cell_below hSw q1; have q2' := pw_cell_below hSw q2; have hf0' := pw_cell_below hSw hf0; have hf1' := pw_cell_below hSw hf1; have hf2' := pw_cell_below hSw hf2; have a1' := pw_cell_below hSw a1; have hlk := (HM8.out.step (w' := w) (hSw.block _ HM8.out.lt)).look s.f0 HSF.out; rw [HD0.out] at hlk; have hd1 : decide (s.f1 < 0) = false := decide_eq_false (by omega); have hd2 : decide (depth < s.f1) = false := decide_eq_false (by omega); clear hSw; go_simp; (first | done | with_reducible rfl))
          (try simp only [Act.put, List.setIfInBounds_toArray, List.set_cons_zero, List.set_cons_succ])
          refine take_ (i := 22) (oi := { dst := some 81, op := Go.Op.load 9 (Go.Operand.tmp 80), type := 9, pos := "law.go:114", after := #[{ on := 21, ground := Go.Ground.data }, { on := 19, ground := Go.Ground.guard }], guard := some (19, false) }) (v := ?v22_b) #[true, true, true, true, true, true, true, true, true, true, true, true, true, true, true, true, true, true, true, true, true, true, true, false, false, false] rfl rfl (by kernel_rfl) (fun _ _ _ h => h) (Or.inl ⟨by rfl, ?hy22_b⟩) hHeld5b rfl ?rest22_b
          case hy22_b => (intro w hSw; have q0' := pw_cell_below hSw q0; have q1' := pw_cell_below hSw q1; have q2' := pw_cell_below hSw q2; have hf0' := pw_cell_below hSw hf0; have hf1' := pw_cell_below hSw hf1; have hf2' := pw_cell_below hSw hf2; have a1' := pw_cell_below hSw a1; have hlk := (HM8.out.step (w' := w) (hSw.block _ HM8.out.lt)).look s.f0 HSF.out; rw [HD0.out] at hlk; have hd1 : decide (s.f1 < 0) = false := decide_eq_false (by omega); have hd2 : decide (depth < s.f1) = false := decide_eq_false (by omega); clear hSw; go_simp; (first | done | with_reducible rfl))
          (try simp only [Act.put, List.setIfInBounds_toArray, List.set_cons_zero, List.set_cons_succ])
          refine take_ (i := 23) (oi := { dst := some 82, op := Go.Op.lookup 33 (Go.Operand.tmp 79) (Go.Operand.tmp 81) false, type := 3, pos := "law.go:114", after := #[{ on := 20, ground := Go.Ground.data }, { on := 22, ground := Go.Ground.data }, { on := 19, ground := Go.Ground.guard }], guard := some (19, false) }) (v := ?v23_b) #[true, true, true, true, true, true, true, true, true, true, true, true, true, true, true, true, true, true, true, true, true, true, true, true, false, false] rfl rfl (by kernel_rfl) (fun _ _ _ h => h) (Or.inl ⟨by rfl, ?hy23_b⟩) hHeld5b rfl ?rest23_b
          case hy23_b => (intro w hSw; have q0' := pw_cell_below hSw q0; have q1' := pw_cell_below hSw q1; have q2' := pw_cell_below hSw q2; have hf0' := pw_cell_below hSw hf0; have hf1' := pw_cell_below hSw hf1; have hf2' := pw_cell_below hSw hf2; have a1' := pw_cell_below hSw a1; have hlk := (HM8.out.step (w' := w) (hSw.block _ HM8.out.lt)).look s.f0 HSF.out; rw [HD0.out] at hlk; have hd1 : decide (s.f1 < 0) = false := decide_eq_false (by omega); have hd2 : decide (depth < s.f1) = false := decide_eq_false (by omega); clear hSw; go_simp; (first | done | with_reducible rfl))
          (try simp only [Act.put, List.setIfInBounds_toArray, List.set_cons_zero, List.set_cons_succ])
          refine take_ (i := 24) (oi := { dst := some 83, op := Go.Op.binOp Go.BinOp.gtr 3 (Go.Operand.tmp 82) (Go.Operand.const (Go.Value.int Go.IntKind.i64 0)) 3, type := 4, pos := "law.go:114", after := #[{ on := 23, ground := Go.Ground.data }, { on := 19, ground := Go.Ground.guard }], guard := some (19, false) }) (v := .bool false) #[true, true, true, true, true, true, true, true, true, true, true, true, true, true, true, true, true, true, true, true, true, true, true, true, true, false] rfl rfl (by kernel_rfl) (fun _ _ _ h => h) (Or.inl ⟨by rfl, ?hy24_b⟩) hHeld5b rfl ?rest24_b
          case hy24_b => (intro w hSw; have q0' := pw_cell_below hSw q0; have q1' := pw_cell_below hSw q1; have q2' := pw_cell_below hSw q2; have hf0' := pw_cell_below hSw hf0; have hf1' := pw_cell_below hSw hf1; have hf2' := pw_cell_below hSw hf2; have a1' := pw_cell_below hSw a1; have hlk := (HM8.out.step (w' := w) (hSw.block _ HM8.out.lt)).look s.f0 HSF.out; rw [HD0.out] at hlk; have hd1 : decide (s.f1 < 0) = false := decide_eq_false (by omega); have hd2 : decide (depth < s.f1) = false := decide_eq_false (by omega); clear hSw; go_simp; (first | done | with_reducible rfl))
          (try simp only [Act.put, List.setIfInBounds_toArray, List.set_cons_zero, List.set_cons_succ])
          refine last_ (i := 25) (oi := { dst := some 84, op := Go.Op.pick (Go.Operand.tmp 78) (Go.Operand.const (Go.Value.bool true)) (Go.Operand.tmp 83), type := 4, pos := "law.go:114", after := #[{ on := 19, ground := Go.Ground.data }, { on := 24, ground := Go.Ground.data }], guard := none }) #[true, true, true, true, true, true, true, true, true, true, true, true, true, true, true, true, true, true, true, true, true, true, true, true, true, true] rfl rfl (by kernel_rfl) (by decide) (fun K hK => ?_)
          go_simp
          refine hK.out _ _ ?_
          clear hK K
          refine done_ (by kernel_rfl) ?_
          have hbx9 := (HB9.out.block _ (blk_lt HBX.out)).trans HBX.out
          have hx9 := (HB9.out.block _ (blk_lt HX8.out)).trans HX8.out
          have hm9 := HM8.out.step (HB9.out.block _ HM8.out.lt)
          have hk9 := HK8.out.below HB9.out
          obtain ⟨w10, hput, hm10, hg10⟩ := hm9.put s.f0 HSF.out (s.f1 + 1) (wf_i64 (by omega) (by have := HGI.out.2.2.1; omega)) (by unfold maxLen; omega)
          have hcap : i ≤ c4 := by have := (Kd.R_reads' HR5.out).2.1; omega
          have hneb : wr.heap.size ≠ w5.heap.size := by have := HM.out.lt; omega
          have hnex : W.heap.size ≠ w5.heap.size := by have := blk_lt HX5.out; omega
          have hb10 := (hg10.block _ (blk_lt hbx9) (fun e => hneb (Option.some.inj e))).trans hbx9
          have hx10 := (hg10.block _ (blk_lt hx9) (fun e => hnex (Option.some.inj e))).trans hx9
          have hk10 : Kept w5 w10 (fun _ => False) := Kept.of_grown hg10 hk9 (fun k hk => .inr (by injection hk with hk; omega))
          have hbl9 := blk_lt hbx9
          have hxl9 := blk_lt hx9
          have hm11 : SMap w10 w5.heap.size (i + 1) (depF (lo.take (i + 1))) := by rw [HSI.out, depF_snoc]; exact hm10
          clear hm10 q0 q1 q2 a0 a1 a3 hf0 hf1 hf2
          clear hHeld hHeld5b
          have q0 := (blk_cell hbx9 0).trans rfl
          have q1 := (blk_cell hbx9 1).trans rfl
          have p0 := (blk_cell hb10 0).trans rfl
          have p1 := (blk_cell hb10 1).trans rfl
          have a0 := (blk_cell hx10 0).trans rfl
          have HM11 := Lib.hid hm11; clear hm11 hm9
          have HB10 := Lib.hid hb10; clear hb10 hbx9
          have HX10 := Lib.hid hx10; clear hx10 hx9
          have HK10 := Lib.hid hk10; clear hk10 hk9
          have HG10 := Lib.hid hg10; clear hg10
          rcases Nat.eq_zero_or_pos i with hi0 | hi0
          · subst hi0
            have hf := HFI.out
            unfold foundB at hf
            simp only [List.take_zero, List.any_nil, Bool.or_false, decide_eq_true_eq, true_and] at hf
            obtain ⟨hr0, hr1⟩ := hf
            have e1 : (s.f0.toList == root.toList) = true := by rw [hr0]; simp
            have e2 : (s.f1 == 0) = true := by rw [hr1]; rfl
            clear hr0 hr1
            go_wp2_with fail
            obtain ⟨wo, rfl⟩ : ∃ wo : World, wo = wr := ⟨_, rfl⟩
            go_loopg [10, 109] 0 (fun kq t10 t109 wz => t10 = .bool true ∧ t109 = .int .i64 0 ∧ Kept w10 wz (fun _ => False))
            case atStart => exact ⟨rfl, rfl, Kept.refl _ _⟩
            case round =>
              obtain ⟨rfl, rfl, hKz⟩ := hrel
              have HKZ := Lib.hid hKz
              clear hKz
              go_wp2_with fail
              have hKz := HKZ.out
              go_roundg (lo.length - (0 + 1))
              case rel => exact ⟨0 + 1, by omega, by go_num, rfl, HM11.out.step (hKz.2 _ HM11.out.lt (fun h => h)), HK10.out.then_ hKz (fun _ h => h.elim)⟩
              case measure => omega
          · have e1 : ((i : Int) == 0) = false := by simp; omega
            go_wp2_with fail
            obtain ⟨wo, rfl⟩ : ∃ wo : World, wo = wr := ⟨_, rfl⟩
            go_loopg [10, 109] i (fun kq t10 t109 wz => ∃ j : Nat, j ≤ i ∧ t109 = .int .i64 (j : Int) ∧ kq = i - j ∧ t10 = .bool ((lo.take j).any (childB (askM l) sug s)) ∧ Kept w10 wz (fun _ => False))
            case atStart => exact ⟨0, Nat.zero_le _, rfl, rfl, rfl, Kept.refl _ _⟩
            case round =>
              obtain ⟨j, hji, rfl, rfl, rfl, hKz⟩ := hrel
              have HKZ := Lib.hid hKz; clear hKz
              clear q0 q1 p0 p1 a0
              by_cases hj : j < i
              · obtain ⟨A8, c8, g0, g1, g2, _, _⟩ := HCR.out j (by omega)
                have hK5z := HK10.out.then_ HKZ.out (fun _ h => h.elim)
                have HK5Z := Lib.hid hK5z; clear hK5z
                have g0 := cell_keep g0 HK5Z.out
                have g1 := cell_keep g1 HK5Z.out
                have g2 := cell_keep g2 HK5Z.out
                have HSJ := Lib.hid (show lo.take (j + 1) = lo.take j ++ [lo[j]] from List.take_succ_eq_append_getElem (by omega))
                obtain ⟨hGj, hdj⟩ := HGD.out lo[j] (List.getElem_mem (by omega))
                generalize hp : lo[j] = p at *
                have HP := Lib.hid hp; clear hp
                have hp1 := hGj.2.1
                have hp2 := hGj.2.2.1
                have HGJ := Lib.hid hGj; clear hGj
                obtain ⟨ka, ra, hka⟩ := ask_f l p.f0 (by have := few_len HF.out; omega)
                have HKA := Lib.hid hka; clear hka
                have hwz := HKZ.out.1
                have HB11 := Lib.hid ((HKZ.out.2 _ (blk_lt HB10.out) (fun h => h)).trans HB10.out)
                have HX11 := Lib.hid ((HKZ.out.2 _ (blk_lt HX10.out) (fun h => h)).trans HX10.out)
                go_wp2_with fail
                have hbp := heap_alloc_new wr (.cells #[.string p.f0, .int .i64 p.f1, .slice A8 p.f2.length c8] 36)
                have hk12 := (Kept.refl wr (fun _ => False)).alloc (.cells #[.string p.f0, .int .i64 p.f1, .slice A8 p.f2.length c8] 36)
                have hV12 : Kd.V k41 41 (wr.alloc (.cells #[.string p.f0, .int .i64 p.f1, .slice A8 p.f2.length c8] 36)) (wr.alloc (.cells #[.string p.f0, .int .i64 p.f1, .slice A8 p.f2.length c8] 36)).heap.size ok (.slice A l.length c) l := Kd.V_alloc (Kd.V_kept HV.out (HK6.out.then_ HK5Z.out (fun _ h => h.elim)) (fun _ _ h => h)) _
                generalize (wr.alloc (.cells #[.string p.f0, .int .i64 p.f1, .slice A8 p.f2.length c8] 36)) = w12 at *
                refine (enfiladeref20_Ask.calls ka ok A c l p.f0 ra (askM l p.f0).1 (askM l p.f0).2 _ hV12 HKA.out).mono ?_
                rintro e w13 ⟨v13, rfl, hV13, hB13⟩
                obtain ⟨A13, c13, rfl⟩ := Kd.V_slice hV13
                clear hV12 g0 g1 g2
                have hk13 := hk12.below hB13
                have HBP := Lib.hid ((hB13.block _ (blk_lt hbp)).trans hbp)
                have HB13 := Lib.hid ((hk13.2 _ (blk_lt HB11.out) (fun h => h)).trans HB11.out)
                have HX13 := Lib.hid ((hk13.2 _ (blk_lt HX11.out) (fun h => h)).trans HX11.out)
                have HK13 := Lib.hid hk13
                have HV13 := Lib.hid hV13
                clear hk12 hk13 hB13 hbp hV13
                have hkl := (fewOk_of HF.out p.f0).1
                have hfl : ∀ (a b c : Value) (w : World), (Instr.field 41 (.agg #[a, b, c]) 2).run Try.prog w = .ok c w := fun _ _ _ _ => by kernel_rfl
                go_wp2_with fail
                clear hfl
                obtain ⟨wq, rfl⟩ : ∃ wq : World, wq = wr := ⟨_, rfl⟩
                obtain ⟨fc, hcells, hfs⟩ := child_cells (Kd.V_F HV13.out)
                have KC := Lib.hid hcells; clear hcells
                have KS := Lib.hid hfs; clear hfs
                go_loopg [10, 119] (askM l p.f0).2.length (fun kq t10 t119 wz => ∃ m : Nat, m ≤ (askM l p.f0).2.length ∧ t119 = .int .i64 (m : Int) ∧ kq = (askM l p.f0).2.length - m ∧ t10 = .bool ((lo.take j).any (childB (askM l) sug s) || ((askM l p.f0).2.take m).any (fun ch => decide (ch.f0 = s.f0) && (decide (p.f1 = s.f1 - 1) && counts sug ch))) ∧ Kept w13 wz (fun _ => False))
                case atStart => exact ⟨0, Nat.zero_le _, rfl, rfl, by simp, Kept.refl _ _⟩
                case round =>
                  obtain ⟨m, hml, rfl, rfl, rfl, hKy⟩ := hrel
                  have HKY := Lib.hid hKy; clear hKy
                  by_cases hm : m < (askM l p.f0).2.length
                  · obtain ⟨bk, offk, hA, hok, hcc⟩ := KC.out (by omega)
                    obtain ⟨c0, c1, c2, c3, c4'⟩ := hcc m hm
                    obtain ⟨A9, c9, hfi, _, _⟩ := KS.out m hm
                    rw [hfi] at c0 c1 c2 c3 c4'
                    have HSM := Lib.hid (show (askM l p.f0).2.take (m + 1) = (askM l p.f0).2.take m ++ [(askM l p.f0).2[m]] from List.take_succ_eq_append_getElem hm)
                    generalize hch : (askM l p.f0).2[m] = ch at *
                    have HCH := Lib.hid hch; clear hch
                    generalize hbb : ((lo.take j).any (childB (askM l) sug s) || ((askM l p.f0).2.take m).any (fun ch => decide (ch.f0 = s.f0) && (decide (p.f1 = s.f1 - 1) && counts sug ch))) = bb
                    have hpb : ((lo.take j).any (childB (askM l) sug s) || ((askM l p.f0).2.take (m + 1)).any (fun ch => decide (ch.f0 = s.f0) && (decide (p.f1 = s.f1 - 1) && counts sug ch))) = (bb || (decide (ch.f0 = s.f0) && (decide (p.f1 = s.f1 - 1) && counts sug ch))) := by
                      rw [HSM.out, List.any_append, ← Bool.or_assoc, hbb]
                      simp
                    have HPB := Lib.hid hpb; clear hpb
                    clear hbb
                    have c0 : wr.cell? ⟨bk, offk + m * 5, none⟩ = some (.string ch.f0) := cell_keep c0 HKY.out
                    have c1 : wr.cell? ⟨bk, offk + m * 5 + 1, none⟩ = some (.string ch.f1) := cell_keep c1 HKY.out
                    have c2 : wr.cell? ⟨bk, offk + m * 5 + 2, none⟩ = some (.slice A9 ch.f2.length c9) := cell_keep c2 HKY.out
                    have c3 : wr.cell? ⟨bk, offk + m * 5 + 3, none⟩ = some (.bool ch.f3) := cell_keep c3 HKY.out
                    have c4' : wr.cell? ⟨bk, offk + m * 5 + 4, none⟩ = some (.int .i64 ch.f4) := cell_keep c4' HKY.out
                    subst hA
                    clear hcc hfi hok
                    have hb14 := (HKY.out.2 _ (blk_lt HB13.out) (fun h => h)).trans HB13.out
                    have hx14 := (HKY.out.2 _ (blk_lt HX13.out) (fun h => h)).trans HX13.out
                    have hp14 := (HKY.out.2 _ (blk_lt HBP.out) (fun h => h)).trans HBP.out
                    have hbl := blk_lt hb14
                    have hxl' := blk_lt hx14
                    have hpl := blk_lt hp14
                    have r0 := (blk_cell hb14 0).trans rfl
                    have r1 := (blk_cell hb14 1).trans rfl
                    have x3 := (blk_cell hx14 3).trans rfl
                    have r2 := (blk_cell hp14 1).trans rfl
                    have HB14 := Lib.hid hb14; clear hb14
                    have HX14 := Lib.hid hx14; clear hx14
                    have HP14 := Lib.hid hp14; clear hp14
                    cases bb with
                    | true =>
                      have hv : Value.bool true = .bool ((lo.take j).any (childB (askM l) sug s) || ((askM l p.f0).2.take (m + 1)).any (fun ch => decide (ch.f0 = s.f0) && (decide (p.f1 = s.f1 - 1) && counts sug ch))) := by
                        rw [HPB.out]; rfl
                      have HPBX := Lib.hid hv; clear hv HPB
                      go_wp2_with fail
                      go_roundg ((askM l p.f0).2.length - (m + 1))
                      case rel => exact ⟨m + 1, by omega, by go_num, rfl, HPBX.out, HKY.out.alloc _⟩
                      case measure => omega
                    | false =>
                      by_cases hq0 : ch.f0 = s.f0
                      · have hq1 : (ch.f0.toList == s.f0.toList) = true := by rw [hq0]; simp
                        by_cases hq2 : p.f1 = s.f1 - 1
                        · have hq3 : (p.f1 == s.f1 - 1) = true := by rw [hq2]; simp
                          cases hq4 : ch.f3 with
                          | true =>
                            rw [hq4] at c3
                            have hv : Value.bool true = .bool ((lo.take j).any (childB (askM l) sug s) || ((askM l p.f0).2.take (m + 1)).any (fun ch => decide (ch.f0 = s.f0) && (decide (p.f1 = s.f1 - 1) && counts sug ch))) := by
                              rw [HPB.out]; simp [hq0, hq2, counts, hq4]
                            have HPBX := Lib.hid hv; clear hv HPB
                            clear hq0 hq2 hq4
                            go_wp2_with fail
                            go_roundg ((askM l p.f0).2.length - (m + 1))
                            case rel => exact ⟨m + 1, by omega, by go_num, rfl, HPBX.out, HKY.out.alloc _⟩
                            case measure => omega
                          | false =>
                            rw [hq4] at c3
                            rcases Bool.eq_false_or_eq_true sug with hq5 | hq5
                            · rw [hq5] at x3
                              have hv : Value.bool false = .bool ((lo.take j).any (childB (askM l) sug s) || ((askM l p.f0).2.take (m + 1)).any (fun ch => decide (ch.f0 = s.f0) && (decide (p.f1 = s.f1 - 1) && counts sug ch))) := by
                                rw [HPB.out]; simp [hq0, hq2, counts, hq4, hq5]
                              have HPBX := Lib.hid hv; clear hv HPB
                              clear hq0 hq2 hq4 hq5
                              go_wp2_with fail
                              go_roundg ((askM l p.f0).2.length - (m + 1))
                              case rel => exact ⟨m + 1, by omega, by go_num, rfl, HPBX.out, HKY.out.alloc _⟩
                              case measure => omega
                            · rw [hq5] at x3
                              have hv : Value.bool true = .bool ((lo.take j).any (childB (askM l) sug s) || ((askM l p.f0).2.take (m + 1)).any (fun ch => decide (ch.f0 = s.f0) && (decide (p.f1 = s.f1 - 1) && counts sug ch))) := by
                                rw [HPB.out]; simp [hq0, hq2, counts, hq4, hq5]
                              have HPBX := Lib.hid hv; clear hv HPB
                              clear hq0 hq2 hq4 hq5
                              go_wp2_with fail
                              go_roundg ((askM l p.f0).2.length - (m + 1))
                              case rel => exact ⟨m + 1, by omega, by go_num, rfl, HPBX.out, HKY.out.alloc _⟩
                              case measure => omega
                        · have hq3 : (p.f1 == s.f1 - 1) = false := by simp [hq2]
                          have hv : Value.bool false = .bool ((lo.take j).any (childB (askM l) sug s) || ((askM l p.f0).2.take (m + 1)).any (fun ch => decide (ch.f0 = s.f0) && (decide (p.f1 = s.f1 - 1) && counts sug ch))) := by
                            rw [HPB.out]; simp [hq2]
                          have HPBX := Lib.hid hv; clear hv HPB
                          clear hq0 hq2
                          go_wp2_with fail
                          go_roundg ((askM l p.f0).2.length - (m + 1))
                          case rel => exact ⟨m + 1, by omega, by go_num, rfl, HPBX.out, HKY.out.alloc _⟩
                          case measure => omega
                      · have hq1 : (ch.f0.toList == s.f0.toList) = false := by
                          rw [beq_eq_false_iff_ne]
                          exact fun h => hq0 (bytes_toList h)
                        have hv : Value.bool false = .bool ((lo.take j).any (childB (askM l) sug s) || ((askM l p.f0).2.take (m + 1)).any (fun ch => decide (ch.f0 = s.f0) && (decide (p.f1 = s.f1 - 1) && counts sug ch))) := by
                          rw [HPB.out]; simp [hq0]
                        have HPBX := Lib.hid hv; clear hv HPB
                        clear hq0
                        go_wp2_with fail
                        go_roundg ((askM l p.f0).2.length - (m + 1))
                        case rel => exact ⟨m + 1, by omega, by go_num, rfl, HPBX.out, HKY.out.alloc _⟩
                        case measure => omega
                  · have hme : m = (askM l p.f0).2.length := by omega
                    go_wp2_with fail
                    go_roundg (i - (j + 1))
                    case rel =>
                      refine ⟨j + 1, by omega, by go_num, rfl, ?_, (HKZ.out.then_ HK13.out (fun _ h => h.elim)).then_ HKY.out (fun _ h => h.elim)⟩
                      rw [HSJ.out, List.any_append, hme, List.take_length]
                      simp [childB]
                    case measure => omega
              · have hje : j = i := by omega
                have hfd : (lo.take j).any (childB (askM l) sug s) = true := by
                  have hf := HFI.out
                  unfold foundB at hf
                  rw [decide_eq_false, Bool.false_or] at hf
                  · rw [hje]; exact hf
                  · intro h
                    have := congrArg List.length h.1
                    rw [List.length_take, List.length_nil] at this
                    omega
                rw [hfd]
                go_wp2_with fail
                have hKz := HKZ.out
                go_roundg (lo.length - (i + 1))
                case rel => exact ⟨i + 1, by omega, by go_num, rfl, HM11.out.step (hKz.2 _ HM11.out.lt (fun h => h)), HK10.out.then_ hKz (fun _ h => h.elim)⟩
                case measure => omega
        · go_wp2_with fail
          go_ret
          exact ⟨rfl, HK6.out.then_ HKR.out (fun _ h => h.elim)⟩
end Go.Proofs.Yteamocejpankdaa
