/- The document's Next: the same steps as the walk's. For every world. -/
import Derived.Test.YteamocejpankdaaA12
namespace Go.Proofs.Yteamocejpankdaa
open Go.Proofs.YteamocejpankdaaW.PrintLast Go.RowKit Go.Shelf Go.Proofs.YteamocejpankdaaW.PrintWords Go.Proofs.Yteamocejpankdaa.PWalkCopies
set_option linter.unusedVariables false
set_option linter.unusedSimpArgs false

def okA (ok0 : Nat → Prop) (N : Nat) : Nat → Prop := fun k => ok0 k ∧ k < N ∨ N ≤ k
def okB (ok0 : Nat → Prop) (N : Nat) : Nat → Prop := fun k => ok0 k ∧ k < N ∨ N + 3 ≤ k
/-- What the document's Next hands back. -/
def RNPost (W : World) (ok0 : Nat → Prop) (dep : Int) (sug : Bool) (q : List S38 × List ByteArray × Option (S38 × Int)) (e : Ending) (W' : World) : Prop :=
  ∃ vr vc x0 x1 vv k b, e = .returned (.tuple #[.agg #[.int .i64 dep, .bool sug, vr, vc], .agg #[.string x0, .int .i64 x1, vv], .int .i64 k, .bool b]) ∧ Kd.V k38 38 W' 0 (okA ok0 W.heap.size) vr q.1 ∧ Kd.V Kd.string 9 W' 0 (okA ok0 W.heap.size) vc q.2.1.reverse ∧ Below W.heap.size W W' ∧
    match q.2.2 with
    | some (s, kd) => k = kd ∧ b = true ∧ Kd.FK k38 W' (okA ok0 W.heap.size) s [.string x0, .int .i64 x1, vv]
    | none => k = 1 ∧ b = false ∧ vv = .slice none 0 0

theorem reslice_run {b off n c : Nat} (hc : n + 1 ≤ c) (w : World) :
    (Instr.sliceAt 31 (.slice (some ⟨b, off, none⟩) (n + 1) c) (some (.int .i64 1)) none none).run Try.prog w = .ok (.slice (if c = 1 then some ⟨b, off, none⟩ else some ⟨b, off + 3, none⟩) n (c - 1)) w := by
  have h2 : ¬ ((n : Int) + 1 < 1) := by omega
  have h3 : ¬ (n + 1 < 1) := by omega
  by_cases h : c = 1
  · subst h
    have : n = 0 := by omega
    subst this
    go_simp
  · go_simp
theorem reslice1 {ops : Array Oper} {rest : List Oper} {o : Oper} {a : Act} {Q : Exit → Act → World → Prop} {w : World} {s : Operand} {b off n c : Nat} (hg : o.guard = none) (hop : o.op = Op.slice 31 s (some (.const (.int .i64 1))) none none)
    (hs : a.eval s = .slice (some ⟨b, off, none⟩) (n + 1) c) (hc : n + 1 ≤ c)
    (hK : ∀ A', A' = (if c = 1 then some (⟨b, off, none⟩ : Addr) else some ⟨b, off + 3, none⟩) → wpList Try.prog ops Q rest (a.put o.dst (.slice A' n (c - 1))) w) : wpList Try.prog ops Q (o :: rest) a w := by
  refine wpList_plain hg fun K' hK' => ?_
  unfold Oper.wp
  simp only [execOp, hop, hs, Option.map_some, Option.map_none]
  have hr := reslice_run (b := b) (off := off) hc w
  have h1 : a.eval (.const (.int .i64 1)) = .int .i64 1 := rfl
  rw [h1]
  simp only [Sem.run_bind, Sem.run_pure, hr, Result.andThen]
  exact hK' _ _ (hK _ rfl)
theorem in_l0 (l : List ByteArray) (s : ByteArray) (hl : l.length ≤ 900000000000) : ∀ n i, l.length - i = n → i ≤ l.length → enfiladeref20_in.l0 (n + 1) l s (l.length : Int) (i : Int) = some (memB (l.drop i) s) := by
  intro n
  induction n with
  | zero =>
    intro i h1 h2
    have e : i = l.length := by omega
    subst e
    simp [enfiladeref20_in.l0, memB]
  | succ n ih =>
    intro i h1 h2
    have hi : i < l.length := by omega
    unfold enfiladeref20_in.l0
    rw [if_pos (by omega), if_pos (by omega), if_pos (by omega), List.drop_eq_getElem_cons hi]
    have hrd : rdOf ByteArray.empty l (i : Int) = l[i] := by simp [rdOf, List.getD_eq_getElem?_getD, hi]
    rw [hrd]
    by_cases he : l[i] = s
    · rw [if_pos (by rw [he]), memB_iff.2 (by rw [he]; exact List.mem_cons_self)]
    · rw [if_neg (fun h => he (bytes_toList h))]
      have := ih (i + 1) (by omega) (by omega)
      rw [show wrap64 ((i : Int) + 1) = ((i + 1 : Nat) : Int) by unfold wrap64; omega, this]
      congr 1
      rw [Bool.eq_iff_iff, memB_iff, memB_iff, List.mem_cons]
      exact ⟨fun h => .inr h, fun h => h.elim (fun h => (he h.symm).elim) (fun h => h)⟩
theorem in_f (l : List ByteArray) (s : ByteArray) (hl : l.length ≤ 900000000000) : ∃ k, enfiladeref20_in.f k l s = some (memB l s) := by
  have h := in_l0 l s hl l.length 0 (by omega) (by omega)
  exact ⟨_, by unfold enfiladeref20_in.f; simpa using h⟩
theorem memB_rev (L : List ByteArray) (k : ByteArray) : memB L.reverse k = memB L k := by
  rw [Bool.eq_iff_iff, memB_iff, memB_iff, List.mem_reverse]

def fillW (w : World) (N : Nat) (v0 v1 v2 v3 u0 u1 u2 : Value) : World :=
  ((((((w.setCell ⟨N + 1, 0, none⟩ v0).setCell ⟨N + 1, 1, none⟩ v1).setCell ⟨N + 1, 2, none⟩ v2).setCell ⟨N + 1, 3, none⟩ v3).setCell ⟨N + 1 + 1, 0, none⟩ u0).setCell ⟨N + 1 + 1, 1, none⟩ u1).setCell ⟨N + 1 + 1, 2, none⟩ u2
theorem fill_kept (w : World) (N : Nat) (v0 v1 v2 v3 u0 u1 u2 : Value) : Kept w (fillW w N v0 v1 v2 v3 u0 u1 u2) (fun k => N < k ∧ k < N + 3) := by
  have e1 : (fun k : Nat => N < k ∧ k < N + 3) (N + 1) := ⟨by omega, by omega⟩
  have e2 : (fun k : Nat => N < k ∧ k < N + 3) (N + 1 + 1) := ⟨by omega, by omega⟩
  unfold fillW
  exact (((((((Kept.refl w (fun k => N < k ∧ k < N + 3)).setCell (p := ⟨N + 1, 0, none⟩) (.inl e1) _).setCell (p := ⟨N + 1, 1, none⟩) (.inl e1) _).setCell (p := ⟨N + 1, 2, none⟩) (.inl e1) _).setCell (p := ⟨N + 1, 3, none⟩) (.inl e1) _).setCell (p := ⟨N + 1 + 1, 0, none⟩) (.inl e2) _).setCell (p := ⟨N + 1 + 1, 1, none⟩) (.inl e2) _).setCell (p := ⟨N + 1 + 1, 2, none⟩) (.inl e2) _
theorem fill_below {W w : World} {N : Nat} (h : Below N W w) (v0 v1 v2 v3 u0 u1 u2 : Value) : Below N W (fillW w N v0 v1 v2 v3 u0 u1 u2) := by
  have e1 : N ≤ N + 1 := by omega
  have e2 : N ≤ N + 1 + 1 := by omega
  unfold fillW
  exact ((((((h.setCell (p := ⟨N + 1, 0, none⟩) e1 _).setCell (p := ⟨N + 1, 1, none⟩) e1 _).setCell (p := ⟨N + 1, 2, none⟩) e1 _).setCell (p := ⟨N + 1, 3, none⟩) e1 _).setCell (p := ⟨N + 1 + 1, 0, none⟩) e2 _).setCell (p := ⟨N + 1 + 1, 1, none⟩) e2 _).setCell (p := ⟨N + 1 + 1, 2, none⟩) e2 _
theorem okB_A {ok0 : Nat → Prop} {N k : Nat} (h : okB ok0 N k) : okA ok0 N k := h.elim .inl (fun h => .inr (by omega))
theorem okB_off {ok0 : Nat → Prop} {N k : Nat} (h : okB ok0 N k) : ¬ (N < k ∧ k < N + 3) := by rcases h with h | h <;> omega
theorem Kept.setCells4 (w : World) (M : Nat) (v0 v1 v2 v3 : Value) {N : Nat} (h : N ≠ M) : ((((w.setCell ⟨M, 0, none⟩ v0).setCell ⟨M, 1, none⟩ v1).setCell ⟨M, 2, none⟩ v2).setCell ⟨M, 3, none⟩ v3).heap[N]? = w.heap[N]? :=
  (Below.heap_setCell _ _ _ N h).trans ((Below.heap_setCell _ _ _ N h).trans ((Below.heap_setCell _ _ _ N h).trans (Below.heap_setCell _ _ _ N h)))
theorem Kept.setCells3 (w : World) (M : Nat) (v0 v1 v2 : Value) {N : Nat} (h : N ≠ M) : (((w.setCell ⟨M, 0, none⟩ v0).setCell ⟨M, 1, none⟩ v1).setCell ⟨M, 2, none⟩ v2).heap[N]? = w.heap[N]? :=
  (Below.heap_setCell _ _ _ N h).trans ((Below.heap_setCell _ _ _ N h).trans (Below.heap_setCell _ _ _ N h))
/-- The results' cells are filled. -/
theorem ref_done {W w : World} {ok0 : Nat → Prop} {dep : Int} {sug : Bool} {row' : List S38} {L' : List ByteArray} {o : Option (S38 × Int)} {vr vc vv : Value} {x0 : ByteArray} {x1 k : Int} {b : Bool} (hb : Below W.heap.size W w) (h1 : Kd.V k38 38 w 0 (okB ok0 W.heap.size) vr row') (h2 : Kd.V Kd.string 9 w 0 (okB ok0 W.heap.size) vc L'.reverse)
    (h3 : match o with
      | some (s, kd) => k = kd ∧ b = true ∧ Kd.FK k38 w (okB ok0 W.heap.size) s [.string x0, .int .i64 x1, vv]
      | none => k = 1 ∧ b = false ∧ vv = .slice none 0 0) :
    RNPost W ok0 dep sug (row', L', o) (.returned (.tuple #[.agg #[.int .i64 dep, .bool sug, vr, vc], .agg #[.string x0, .int .i64 x1, vv], .int .i64 k, .bool b])) (fillW w W.heap.size (.int .i64 dep) (.bool sug) vr vc (.string x0) (.int .i64 x1) vv) := by
  refine ⟨vr, vc, x0, x1, vv, k, b, rfl, Kd.V_mono (Kd.V_kept h1 (fill_kept _ _ _ _ _ _ _ _ _) (fun _ h => okB_off h)) (fun _ h => okB_A h), Kd.V_mono (Kd.V_kept h2 (fill_kept _ _ _ _ _ _ _ _ _) (fun _ h => okB_off h)) (fun _ h => okB_A h), fill_below hb _ _ _ _ _ _ _, ?_⟩
  cases o with
  | none => exact h3
  | some sk => exact ⟨h3.1, h3.2.1, Kd.FK_mono (Kd.FK_step h3.2.2 (fun k hk hlt => (fill_kept w W.heap.size _ _ _ _ _ _ _).2 k hlt (okB_off hk))) (fun _ h => okB_A h)⟩
theorem RNPost.drew {W : World} {ok0 : Nat → Prop} {dep : Int} {sug : Bool} {q : List S38 × List ByteArray × Option (S38 × Int)} {e : Ending} {X : World} (h : RNPost W ok0 dep sug q e X) : RNPost W ok0 dep sug q e X.drew := by
  obtain ⟨vr, vc, x0, x1, vv, k, b, rfl, h1, h2, h3, h4⟩ := h
  refine ⟨vr, vc, x0, x1, vv, k, b, rfl, Kd.V_drew h1, Kd.V_drew h2, below_drew h3, ?_⟩
  generalize q.2.2 = o at *
  cases o with
  | none => exact h4
  | some sk => exact ⟨h4.1, h4.2.1, Kd.FK_below h4.2.2 (below_drew (Below.refl _ _))⟩
theorem one_str {w : World} {base g : Nat} {x : ByteArray} (hg : w.heap[g]? = some (.cells #[.string x] 9 (0, 0))) (hb : base ≤ g) : Kd.string.R 9 w base (fun _ => True) (.slice (some ⟨g, 0, none⟩) 1 1) [x] :=
  ⟨fun _ _ => trivial, [.string x], ⟨rfl, .inr ⟨g, 1, _, rfl, hb, hg, Nat.le_refl _, by decide, rfl, rfl⟩⟩, Reps.snoc (Reps.none _ _) rfl rfl⟩
theorem info38 : (Try.prog.info? 38).map (fun i => (i.zero, i.size, i.bytes)) = some (some (.agg #[.string ⟨#[]⟩, .int .i64 0, .slice none 0 0]), 3, 48) := by kernel_rfl
theorem in_calls (A : Option Addr) (c : Nat) (L : List ByteArray) (s : ByteArray) (W : World) (b : Nat) (ok : Nat → Prop) (hV : Kd.V Kd.string 9 W b ok (.slice A L.length c) L.reverse) (hl : L.length ≤ 900000000000) :
    Calls Try.prog 32 #[.slice A L.length c, .string s] W fun e w' => e = .returned (.bool (memB L s)) ∧ ∃ m, w' = W.drewN m := by
  obtain ⟨k, hk⟩ := in_f L.reverse s (by rw [List.length_reverse]; omega)
  rw [memB_rev] at hk
  obtain ⟨h1, h2, h3⟩ := Kd.V_reads' hV
  rw [h1] at h2 ⊢
  refine (enfiladeref20_in.calls k A c L.reverse s (memB L s) W h3 h2 hk).mono ?_
  rintro e w' ⟨rfl, hd⟩
  exact ⟨rfl, hd.out⟩
theorem V_rest {W : World} {ok : Nat → Prop} {b o c base : Nat} {x : S38} {rest : List S38} (h : Kd.V k38 38 W base ok (.slice (some ⟨b, o, none⟩) (rest.length + 1) c) (x :: rest)) {A' : Option Addr} (hA : A' = if c = 1 then some (⟨b, o, none⟩ : Addr) else some ⟨b, o + 3, none⟩) :
    Kd.V k38 38 W base ok (.slice A' rest.length (c - 1)) rest := by
  obtain ⟨_, h2, h3⟩ := Kd.V_at h
  have h4 := Kd.F_cut (m := 1) h3 (by simp) (show (x :: rest).length ≤ c from h2)
  subst hA
  exact Kd.V_mk (by omega) h4
set_option maxRecDepth 100000 in
set_option maxHeartbeats 2000000 in
theorem refNext_calls (W : World) (dep : Int) (sug : Bool) (Ar Ac Al : Option Addr) (cr cc cl : Nat) (row : List S38) (L : List ByteArray) (l : List S41) (ok0 : Nat → Prop) (hr : Kd.V k38 38 W 0 ok0 (.slice Ar row.length cr) row) (hc : Kd.V Kd.string 9 W 0 ok0 (.slice Ac L.length cc) L.reverse) (hl : Kd.V k41 41 W 0 ok0 (.slice Al l.length cl) l)
    (hll : l.length ≤ 1000000) (hF : FOk (askM l)) (hrow : ∀ s ∈ row, SOk s) (hlen : L.length + row.length ≤ 900000000000) :
    Calls Try.prog 20 #[.agg #[.int .i64 dep, .bool sug, .slice Ar row.length cr, .slice Ac L.length cc], .slice Al l.length cl] W (RNPost W ok0 dep sug (nextM (askM l) dep sug row L)) := by
  have HL := Lib.hid hl; clear hl
  have HR := Lib.hid hr; clear hr
  have HC := Lib.hid hc; clear hc
  have HF := Lib.hid hF; clear hF
  have HW := Lib.hid hrow; clear hrow
  go_enter Try.func20, Try.ntmps20
  go_wp2_with fail
  go_loopg [] row.length (fun kq wr => ∃ row1 L1 Ar1 cr1 Ac1 cc1, kq = List.length row1 ∧ Kd.V k38 38 wr 0 (okB ok0 W.heap.size) (.slice Ar1 row1.length cr1) row1 ∧ Kd.V Kd.string 9 wr 0 (okB ok0 W.heap.size) (.slice Ac1 (List.length L1) cc1) L1.reverse ∧ Below W.heap.size W wr ∧
      Hid (nextM (askM l) dep sug row L = nextM (askM l) dep sug row1 L1) ∧ Hid (∀ s ∈ row1, SOk s) ∧ L1.length + row1.length ≤ L.length + row.length ∧ wr.heap[W.heap.size]? = some (.cells #[.int .i64 dep, .bool sug, .slice Ar1 row1.length cr1, .slice Ac1 L1.length cc1] 47 (0, 0)) ∧
      wr.heap[W.heap.size + 1]? = some (.cells #[.int .i64 0, .bool false, .slice none 0 0, .slice none 0 0] 47 (0, 0)) ∧ wr.heap[W.heap.size + 2]? = some (.cells #[.string ⟨#[]⟩, .int .i64 0, .slice none 0 0] 38 (0, 0)))
  case atStart =>
    have hb : ∀ k, ok0 k ∧ k < W.heap.size → okB ok0 W.heap.size k := fun k hk => .inl hk
    refine ⟨row, L, Ar, cr, Ac, cc, rfl, ?_, ?_, below_alloc (below_alloc (below_alloc (Below.refl _ _) _) _) _, Lib.hid rfl, HW, Nat.le_refl _, ?_, ?_, ?_⟩
    · exact Kd.V_alloc (Kd.V_alloc (Kd.V_alloc (Kd.V_mono (Kd.V_bound HR.out) hb) _) _) _
    · exact Kd.V_alloc (Kd.V_alloc (Kd.V_alloc (Kd.V_mono (Kd.V_bound HC.out) hb) _) _) _
    · exact (Below.heap_alloc _ _ _ (by simp; omega)).trans ((Below.heap_alloc _ _ _ (by simp)).trans (heap_alloc_new _ _))
    · refine (Below.heap_alloc _ _ _ (by simp)).trans ?_
      have := heap_alloc_new (W.alloc (.cells #[.int .i64 dep, .bool sug, .slice Ar row.length cr, .slice Ac L.length cc] 47)) (.cells #[.int .i64 0, .bool false, .slice none 0 0, .slice none 0 0] 47)
      rw [World.size_alloc] at this
      exact this
    · have := heap_alloc_new ((W.alloc (.cells #[.int .i64 dep, .bool sug, .slice Ar row.length cr, .slice Ac L.length cc] 47)).alloc (.cells #[.int .i64 0, .bool false, .slice none 0 0, .slice none 0 0] 47)) (.cells #[.string ⟨#[]⟩, .int .i64 0, .slice none 0 0] 38)
      rw [World.size_alloc, World.size_alloc] at this
      exact this
  case round =>
    obtain ⟨row1, L1, Ar1, cr1, Ac1, cc1, rfl, hr1, hc1, hb1, HN, HS, hle, hx, hy, hz⟩ := hrel
    have hxl := blk_lt hx
    have hyl := blk_lt hy
    have hzl := blk_lt hz
    have a0 := (blk_cell hx 0).trans rfl
    have a1 := (blk_cell hx 1).trans rfl
    have a2 := (blk_cell hx 2).trans rfl
    have a3 := (blk_cell hx 3).trans rfl
    have af : ∀ i, wr.frozen? ⟨W.heap.size, i, none⟩ = false := fun i => by simp [World.frozen?, hx]
    have y0 := (blk_cell hy 0).trans rfl
    have y1 := (blk_cell hy 1).trans rfl
    have y2 := (blk_cell hy 2).trans rfl
    have y3 := (blk_cell hy 3).trans rfl
    have yf : ∀ i, wr.frozen? ⟨W.heap.size + 1, i, none⟩ = false := fun i => by simp [World.frozen?, hy]
    have z0 := (blk_cell hz 0).trans rfl
    have z1 := (blk_cell hz 1).trans rfl
    have z2 := (blk_cell hz 2).trans rfl
    have zf : ∀ i, wr.frozen? ⟨W.heap.size + 2, i, none⟩ = false := fun i => by simp [World.frozen?, hz]
    have HX := Lib.hid hx; clear hx
    have HY := Lib.hid hy; clear hy
    have HZ := Lib.hid hz; clear hz
    have HB1 := Lib.hid hb1; clear hb1
    have HC1 := Lib.hid hc1; clear hc1
    cases row1 with
    | nil =>
      have HR1 := Lib.hid hr1; clear hr1
      simp only [List.length_nil] at *
      go_wp2_with fail
      refine bodyPost_ret (v := .tuple #[.agg #[.int .i64 dep, .bool sug, .slice Ar1 0 cr1, .slice Ac1 L1.length cc1], .agg #[.string ⟨#[]⟩, .int .i64 0, .slice none 0 0], .int .i64 1, .bool false]) (by simp [results, Try.results20, go_sem, y0, y1, y2, y3, z0, z1, z2, hyl, hzl]) rfl ?_
      rw [HN.out]
      exact ref_done HB1.out HR1.out HC1.out ⟨rfl, rfl, rfl⟩
    | cons x rest =>
      obtain ⟨b, o, hA, hcells⟩ := read_plain (Kd.F_now (Kd.V_F hr1)) (by simp) (by decide)
      subst hA
      obtain ⟨ad, cs, hA, hcl, hFK, hcc, hokb⟩ := Kd.F_get (Kd.V_F hr1) default 0 (by omega) (by simp only [List.length_cons]; omega)
      injection hA with hA
      subst hA
      have hFK : Kd.FK k38 wr (okB ok0 W.heap.size) x cs := hFK
      obtain ⟨A2, c2, rfl, hc2, hF2⟩ := k38_openF hFK
      have q0 : wr.cell? ⟨b, o, none⟩ = some (.string x.f0) := hcc 0 _ rfl
      have q1 : wr.cell? ⟨b, o + 1, none⟩ = some (.int .i64 x.f1) := hcc 1 _ rfl
      have q2 : wr.cell? ⟨b, o + 2, none⟩ = some (.slice A2 x.f2.length c2) := hcc 2 _ rfl
      have HFK := Lib.hid hFK; clear hFK
      have HF2 := Lib.hid hF2; clear hF2
      have HR1 := Lib.hid hr1; clear hr1
      clear hcc hcells hokb
      have hcr : rest.length + 1 ≤ cr1 := (Kd.V_at HR1.out).2.1
      simp only [List.length_cons] at *
      go_wp2_with (refine reslice1 (s := .tmp 23) rfl rfl rfl ?hcr ?_; (case hcr => omega); intro Aq hAq; have HAQ := Lib.hid hAq; clear hAq)
      refine (in_calls Ac1 cc1 L1 x.f0 _ 0 _ (Kd.V_alloc HC1.out _) (by omega)).mono ?_
      rintro e w2 ⟨rfl, m2, rfl⟩
      have HRS := Lib.hid (V_rest HR1.out HAQ.out)
      have hN1 : nextM (askM l) dep sug row L = if memB L1 x.f0 = true then nextM (askM l) dep sug rest L1 else if (askM l x.f0).1 = 0 then (x :: rest, L1, some (x, 0))
          else if (askM l x.f0).1 = 2 then (belowM dep sug x.f1 (askM l x.f0).2 ++ rest, x.f0 :: L1, some (x, 2)) else nextM (askM l) dep sug rest (x.f0 :: L1) := by
        rw [HN.out]
        conv => lhs; unfold nextM
      have HN2 := Lib.hid hN1; clear hN1
      have hB2 := below_alloc HB1.out (.cells #[.string x.f0, .int .i64 x.f1, .slice A2 x.f2.length c2] 38)
      have hbx := heap_alloc_new wr (.cells #[.string x.f0, .int .i64 x.f1, .slice A2 x.f2.length c2] 38)
      have hB3 : Below wr.heap.size wr ((wr.alloc (.cells #[.string x.f0, .int .i64 x.f1, .slice A2 x.f2.length c2] 38)).drewN m2) := pw_below_drewN (below_alloc (Below.refl _ _) _) m2
      have hbx : ((wr.alloc (.cells #[.string x.f0, .int .i64 x.f1, .slice A2 x.f2.length c2] 38)).drewN m2).heap[wr.heap.size]? = _ := hbx
      generalize hw2 : ((wr.alloc (.cells #[.string x.f0, .int .i64 x.f1, .slice A2 x.f2.length c2] 38)).drewN m2) = w2 at *
      clear hw2 hB2
      have hx2 : w2.heap[W.heap.size]? = _ := (hB3.block _ hxl).trans HX.out
      have hy2 : w2.heap[W.heap.size + 1]? = _ := (hB3.block _ hyl).trans HY.out
      have hz2 : w2.heap[W.heap.size + 2]? = _ := (hB3.block _ hzl).trans HZ.out
      clear a0 a1 a2 a3 af y0 y1 y2 y3 yf z0 z1 z2 zf q0 q1 q2
      have a0 := (blk_cell hx2 0).trans rfl
      have a1 := (blk_cell hx2 1).trans rfl
      have a2 := (blk_cell hx2 2).trans rfl
      have a3 := (blk_cell hx2 3).trans rfl
      have af : ∀ i, w2.frozen? ⟨W.heap.size, i, none⟩ = false := fun i => by simp [World.frozen?, hx2]
      have q0 := (blk_cell hbx 0).trans rfl
      have q1 := (blk_cell hbx 1).trans rfl
      have q2 := (blk_cell hbx 2).trans rfl
      have hbxl := blk_lt hbx
      have HX2 := Lib.hid hx2; clear hx2
      have HY2 := Lib.hid hy2; clear hy2
      have HZ2 := Lib.hid hz2; clear hz2
      have HBX := Lib.hid hbx; clear hbx
      have HB3 := Lib.hid hB3; clear hB3
      cases hm : memB L1 x.f0 with
      | true =>
        go_wp2_with fail
        go_roundg rest.length
        case rel =>
          have hb4 : Below W.heap.size W w2 := HB1.out.trans (HB3.out.mono HB1.out.size)
          have hkb : ∀ k, okB ok0 W.heap.size k → k ≠ W.heap.size := fun k hk => by rcases hk with h | h <;> omega
          have hs2 := blk_set HX2.out 2 (.slice Aq rest.length (cr1 - 1))
          refine ⟨rest, L1, Aq, cr1 - 1, Ac1, cc1, rfl, ?_, ?_, hb4.setCell (p := ⟨W.heap.size, 2, none⟩) (Nat.le_refl _) _, Lib.hid ?_, Lib.hid (fun s hs => HS.out s (List.mem_cons_of_mem _ hs)), by omega, ?_, ?_, ?_⟩
          · exact Kd.V_far (p := ⟨W.heap.size, 2, none⟩) (Kd.V_below HRS.out HB3.out) hkb _
          · exact Kd.V_far (p := ⟨W.heap.size, 2, none⟩) (Kd.V_below HC1.out HB3.out) hkb _
          · rw [HN2.out, if_pos hm]
          · simpa using hs2
          · exact (Below.heap_setCell _ ⟨W.heap.size, 2, none⟩ _ _ (by show W.heap.size + 1 ≠ W.heap.size; omega)).trans HY2.out
          · exact (Below.heap_setCell _ ⟨W.heap.size, 2, none⟩ _ _ (by show W.heap.size + 2 ≠ W.heap.size; omega)).trans HZ2.out
        case measure => omega
      | false =>
        obtain ⟨ka, ra, hka⟩ := ask_f l x.f0 hll
        have hlb : Kd.V k41 41 w2 w2.heap.size (okB ok0 W.heap.size) (.slice Al l.length cl) l := Kd.V_map (Kd.V_bound HL.out) (fun _ h => Kd.F_below (Kd.F_mono (Kd.F_below h HB1.out) (fun k hk => .inl hk)) HB3.out)
        go_wp2_with fail
        refine (enfiladeref20_Ask.calls ka (okB ok0 W.heap.size) Al cl l x.f0 ra (askM l x.f0).1 (askM l x.f0).2 _ hlb hka).mono ?_
        clear hlb hka
        rintro e w3 ⟨v4, rfl, hV4, hB4⟩
        obtain ⟨A4, c4, rfl⟩ := Kd.V_slice hV4
        have hw23 := HB3.out.size
        have hW3 := HB1.out.size
        have hV4 : Kd.V k44 44 w3 0 (okB ok0 W.heap.size) (.slice A4 (askM l x.f0).2.length c4) (askM l x.f0).2 := Kd.V_mono (ok' := okB ok0 W.heap.size) hV4 (fun k hk => hk.elim (fun h => h) (fun h => .inr (by omega)))
        have hbx41 := heap_alloc_new w3 (.cells #[.string ra, .int .i64 (askM l x.f0).1, .slice A4 (askM l x.f0).2.length c4] 41)
        have hB5 : Below wr.heap.size wr (w3.alloc (.cells #[.string ra, .int .i64 (askM l x.f0).1, .slice A4 (askM l x.f0).2.length c4] 41)) := below_alloc (HB3.out.trans (hB4.mono hw23)) _
        have hV5 := Kd.V_alloc hV4 (.cells #[.string ra, .int .i64 (askM l x.f0).1, .slice A4 (askM l x.f0).2.length c4] 41)
        have hb5 : (w3.alloc (.cells #[.string ra, .int .i64 (askM l x.f0).1, .slice A4 (askM l x.f0).2.length c4] 41)).heap[wr.heap.size]? = _ := ((Below.heap_alloc _ _ _ (by have := hB4.size; omega)).trans (hB4.block _ hbxl)).trans HBX.out
        have hs5 : (w3.alloc (.cells #[.string ra, .int .i64 (askM l x.f0).1, .slice A4 (askM l x.f0).2.length c4] 41)).heap.size = w3.heap.size + 1 := World.size_alloc _ _
        have hw3 := hB4.size
        have HRA := Lib.hid hV4; clear hV4 hB4
        have hgo : ∀ p u, (w3.alloc (.cells #[.string ra, .int .i64 (askM l x.f0).1, .slice A4 (askM l x.f0).2.length c4] 41)) = p → u = p → u = (w3.alloc (.cells #[.string ra, .int .i64 (askM l x.f0).1, .slice A4 (askM l x.f0).2.length c4] 41)) := fun p u h1 h2 => h2.trans h1.symm
        clear hgo a0 a1 a2 a3 af q0 q1 q2
        generalize hw5 : (w3.alloc (.cells #[.string ra, .int .i64 (askM l x.f0).1, .slice A4 (askM l x.f0).2.length c4] 41)) = w5 at hbx41 hB5 hV5 hb5 hs5
        have hx5 : w5.heap[W.heap.size]? = _ := (hB5.block _ hxl).trans HX.out
        have hy5 : w5.heap[W.heap.size + 1]? = _ := (hB5.block _ hyl).trans HY.out
        have hz5 : w5.heap[W.heap.size + 2]? = _ := (hB5.block _ hzl).trans HZ.out
        have a0 := (blk_cell hx5 0).trans rfl
        have a1 := (blk_cell hx5 1).trans rfl
        have a2 := (blk_cell hx5 2).trans rfl
        have a3 := (blk_cell hx5 3).trans rfl
        have af : ∀ i, w5.frozen? ⟨W.heap.size, i, none⟩ = false := fun i => by simp [World.frozen?, hx5]
        have q0 := (blk_cell hb5 0).trans rfl
        have q1 := (blk_cell hb5 1).trans rfl
        have q2 := (blk_cell hb5 2).trans rfl
        have g1 := (blk_cell hbx41 1).trans rfl
        have g2 := (blk_cell hbx41 2).trans rfl
        have HB5 := Lib.hid hB5; clear hB5
        have HV5 := Lib.hid hV5; clear hV5
        have HX5 := Lib.hid hx5; clear hx5
        have HY5 := Lib.hid hy5; clear hy5
        have HZ5 := Lib.hid hz5; clear hz5
        have HB8 := Lib.hid hb5; clear hb5
        have HB41 := Lib.hid hbx41; clear hbx41
        cases hk0 : ((askM l x.f0).1 == 0) with
        | true =>
          go_wp2_with fail
          have y0 := (blk_cell HY5.out 0).trans rfl
          have y1 := (blk_cell HY5.out 1).trans rfl
          have y2 := (blk_cell HY5.out 2).trans rfl
          have y3 := (blk_cell HY5.out 3).trans rfl
          have yf : ∀ i, w5.frozen? ⟨W.heap.size + 1, i, none⟩ = false := fun i => by simp [World.frozen?, HY5.out]
          have z0 := (blk_cell HZ5.out 0).trans rfl
          have z1 := (blk_cell HZ5.out 1).trans rfl
          have z2 := (blk_cell HZ5.out 2).trans rfl
          have zf : ∀ i, w5.frozen? ⟨W.heap.size + 2, i, none⟩ = false := fun i => by simp [World.frozen?, HZ5.out]
          have hyl5 := blk_lt HY5.out
          have hzl5 := blk_lt HZ5.out
          have SB : ∀ X : World, X.heap[W.heap.size]? = w5.heap[W.heap.size]? → X.heap[wr.heap.size]? = w5.heap[wr.heap.size]? → X.cell? ⟨W.heap.size, 0, none⟩ = some (.int .i64 dep) ∧ X.cell? ⟨W.heap.size, 1, none⟩ = some (.bool sug) ∧ X.cell? ⟨W.heap.size, 2, none⟩ = some (.slice (some ⟨b, o, none⟩) (rest.length + 1) cr1) ∧ X.cell? ⟨W.heap.size, 3, none⟩ = some (.slice Ac1 L1.length cc1) ∧ X.cell? ⟨wr.heap.size, 0, none⟩ = some (.string x.f0) ∧ X.cell? ⟨wr.heap.size, 1, none⟩ = some (.int .i64 x.f1) ∧ X.cell? ⟨wr.heap.size, 2, none⟩ = some (.slice A2 x.f2.length c2) := fun X h1 h2 => ⟨(World.cell?_of_block h1).trans a0, (World.cell?_of_block h1).trans a1, (World.cell?_of_block h1).trans a2, (World.cell?_of_block h1).trans a3, (World.cell?_of_block h2).trans q0, (World.cell?_of_block h2).trans q1, (World.cell?_of_block h2).trans q2⟩
          have SB := Lib.hid SB
          refine start_ (S := (fun w' : World => w'.cell? ⟨W.heap.size, 0, none⟩ = some (.int .i64 dep) ∧ w'.cell? ⟨W.heap.size, 1, none⟩ = some (.bool sug) ∧ w'.cell? ⟨W.heap.size, 2, none⟩ = some (.slice (some ⟨b, o, none⟩) (rest.length + 1) cr1) ∧ w'.cell? ⟨W.heap.size, 3, none⟩ = some (.slice Ac1 L1.length cc1) ∧ w'.cell? ⟨wr.heap.size, 0, none⟩ = some (.string x.f0) ∧ w'.cell? ⟨wr.heap.size, 1, none⟩ = some (.int .i64 x.f1) ∧ w'.cell? ⟨wr.heap.size, 2, none⟩ = some (.slice A2 x.f2.length c2))) (ds := [5]) #[false, false, false, false, false, false] rfl rfl rfl ⟨a0, a1, a2, a3, q0, q1, q2⟩ (fun hHeld => ?_)
          refine take_ (i := 0) (oi := { dst := some 39, op := Go.Op.load 47 (Go.Operand.tmp 2), type := 47, pos := "ref.go:81", after := #[], guard := none }) (v := ?v0_e) #[true, false, false, false, false, false] rfl rfl (by kernel_rfl) (fun _ _ _ h => h) (Or.inl ⟨by rfl, ?hy0_e⟩) (by assumption) rfl ?rest0_e
          case hy0_e => (intro w hSw; (try dsimp only at hSw); go_simp; (first | done | with_reducible rfl))
          (try simp only [Act.put, List.setIfInBounds_toArray, List.set_cons_zero, List.set_cons_succ])
          refine take_ (i := 1) (oi := { dst := some 40, op := Go.Op.load 38 (Go.Operand.tmp 8), type := 38, pos := "ref.go:81", after := #[{ on := 2, ground := Go.Ground.gcOnly Go.Departure.lateStores }], guard := none }) (v := ?v1_e) #[true, true, false, false, false, false] rfl rfl (by kernel_rfl) (fun _ _ _ h => h) (Or.inl ⟨by rfl, ?hy1_e⟩) (by assumption) rfl ?rest1_e
          case hy1_e => (intro w hSw; (try dsimp only at hSw); go_simp; (first | done | with_reducible rfl))
          (try simp only [Act.put, List.setIfInBounds_toArray, List.set_cons_zero, List.set_cons_succ])
          refine one_ (i := 2) (oi := { dst := none, op := Go.Op.store 47 (Go.Operand.tmp 4) (Go.Operand.tmp 39), type := 0, pos := "ref.go:81", after := #[{ on := 0, ground := Go.Ground.data }, { on := 0, ground := Go.Ground.phase }, { on := 1, ground := Go.Ground.textOnly Go.Departure.lateStores }], guard := none }) #[true, true, true, false, false, false] rfl rfl (by kernel_rfl) (by decide) (fun K hK => ?_)
          go_simp
          refine hK.out _ _ ?_ (fun hHeld2 => ?_)
          case refine_1 => (refine ⟨?_, ?_, ?_, ?_, ?_, ?_, ?_⟩ <;> go_simp)
          clear hK K
          (try simp only [Act.put, List.setIfInBounds_toArray, List.set_cons_zero, List.set_cons_succ])
          refine one_ (i := 3) (oi := { dst := none, op := Go.Op.store 38 (Go.Operand.tmp 5) (Go.Operand.tmp 40), type := 0, pos := "ref.go:81", after := #[{ on := 1, ground := Go.Ground.data }, { on := 2, ground := Go.Ground.chain }, { on := 0, ground := Go.Ground.phase }, { on := 1, ground := Go.Ground.phase }, { on := 2, ground := Go.Ground.phase }], guard := none }) #[true, true, true, true, false, false] rfl rfl (by kernel_rfl) (by decide) (fun K hK => ?_)
          go_simp
          refine hK.out _ _ ?_ (fun hHeld3 => ?_)
          case refine_1 => (refine ⟨?_, ?_, ?_, ?_, ?_, ?_, ?_⟩ <;> go_simp)
          clear hK K
          (try simp only [Act.put, List.setIfInBounds_toArray, List.set_cons_zero, List.set_cons_succ])
          refine take_ (i := 4) (oi := { dst := some 6, op := Go.Op.assign (Go.Operand.const (Go.Value.int Go.IntKind.i64 0)), type := 3, pos := "ref.go:81", after := #[{ on := 3, ground := Go.Ground.chain }, { on := 0, ground := Go.Ground.phase }, { on := 1, ground := Go.Ground.phase }, { on := 2, ground := Go.Ground.phase }, { on := 3, ground := Go.Ground.phase }], guard := none }) (v := ?v4_e) #[true, true, true, true, true, false] rfl rfl (by kernel_rfl) (fun _ _ _ h => h) (Or.inl ⟨by rfl, ?hy4_e⟩) hHeld3 rfl ?rest4_e
          case hy4_e => (intro w hSw; (try dsimp only at hSw); go_simp; (first | done | with_reducible rfl))
          (try simp only [Act.put, List.setIfInBounds_toArray, List.set_cons_zero, List.set_cons_succ])
          refine last_ (i := 5) (oi := { dst := some 7, op := Go.Op.assign (Go.Operand.const (Go.Value.bool true)), type := 4, pos := "ref.go:81", after := #[{ on := 4, ground := Go.Ground.chain }, { on := 0, ground := Go.Ground.phase }, { on := 1, ground := Go.Ground.phase }, { on := 2, ground := Go.Ground.phase }, { on := 3, ground := Go.Ground.phase }, { on := 4, ground := Go.Ground.phase }], guard := none }) #[true, true, true, true, true, true] rfl rfl (by kernel_rfl) (by decide) (fun K hK => ?_)
          go_simp
          refine hK.out _ _ ?_
          clear hK K
          refine done_ (by kernel_rfl) ?_
          go_wp2_with fail
          refine bodyPost_ret (v := .tuple #[.agg #[.int .i64 dep, .bool sug, .slice (some ⟨b, o, none⟩) (rest.length + 1) cr1, .slice Ac1 L1.length cc1], .agg #[.string x.f0, .int .i64 x.f1, .slice A2 x.f2.length c2], .int .i64 0, .bool true]) (by simp [results, Try.results20, go_sem, y0, y1, y2, y3, z0, z1, z2, hyl5, hzl5]) rfl ?_
          rw [HN2.out, if_neg (by rw [hm]; decide), if_pos (by simpa using hk0)]
          exact (ref_done (o := some (x, 0)) (k := 0) (b := true) (x0 := x.f0) (x1 := x.f1) (vv := .slice A2 x.f2.length c2) (HB1.out.trans (HB5.out.mono HB1.out.size)) (Kd.V_below HR1.out HB5.out) (Kd.V_below HC1.out HB5.out) ⟨rfl, rfl, Kd.FK_below HFK.out HB5.out⟩).drew
        | false =>
          go_wp2_with fail
          have HS5 := Lib.hid hs5; clear hs5
          have hxl5 := blk_lt HX5.out
          have hb8l := blk_lt HB8.out
          have SB : ∀ X : World, Below w5.heap.size w5 X → X.cell? ⟨W.heap.size, 3, none⟩ = some (.slice Ac1 L1.length cc1) ∧ X.cell? ⟨wr.heap.size, 0, none⟩ = some (.string x.f0) := fun X hX => ⟨(hX.cell (p := ⟨W.heap.size, 3, none⟩) hxl5).trans a3, (hX.cell (p := ⟨wr.heap.size, 0, none⟩) hb8l).trans q0⟩
          have SB := Lib.hid SB
          have CV : ∀ X : World, Below w5.heap.size w5 X → Kd.string.C X Ac1 L1.length L1.reverse := fun X hX => by
            have h := Kd.C_below (Kd.V_reads' (Kd.V_below HC1.out HB5.out)).2.2 hX
            rw [List.length_reverse] at h
            exact h
          have CV := Lib.hid CV
          have hb6 : Below w5.heap.size w5 w5.drew := below_drew (Below.refl _ _)
          have hs6 : w5.drew.heap.size = w5.heap.size := rfl
          refine start_ (S := (fun w' : World => w'.cell? ⟨W.heap.size, 3, none⟩ = some (.slice Ac1 L1.length cc1) ∧ w'.cell? ⟨wr.heap.size, 0, none⟩ = some (.string x.f0))) (ds := [9]) #[false, false, false, false, false, false, false, false, false, false] rfl rfl rfl ⟨a3, q0⟩ (fun hHeld => ?_)
          refine take_ (i := 1) (oi := { dst := some 42, op := Go.Op.fieldAddr 47 (Go.Operand.tmp 2) 3, type := 0, pos := "ref.go:83", after := #[], guard := none }) (v := ?v1_n) #[false, true, false, false, false, false, false, false, false, false] rfl rfl (by kernel_rfl) (fun _ _ _ h => h) (Or.inl ⟨by rfl, ?hy1_n⟩) (by assumption) rfl ?rest1_n
          case hy1_n => (intro w hSw; (try dsimp only at hSw); go_simp; (first | done | with_reducible rfl))
          (try simp only [Act.put, List.setIfInBounds_toArray, List.set_cons_zero, List.set_cons_succ])
          refine take_ (i := 2) (oi := { dst := some 43, op := Go.Op.load 34 (Go.Operand.tmp 42), type := 34, pos := "ref.go:83", after := #[{ on := 1, ground := Go.Ground.data }], guard := none }) (v := ?v2_n) #[false, true, true, false, false, false, false, false, false, false] rfl rfl (by kernel_rfl) (fun _ _ _ h => h) (Or.inl ⟨by rfl, ?hy2_n⟩) (by assumption) rfl ?rest2_n
          case hy2_n => (intro w hSw; (try dsimp only at hSw); go_simp; (first | done | with_reducible rfl))
          (try simp only [Act.put, List.setIfInBounds_toArray, List.set_cons_zero, List.set_cons_succ])
          refine take_ (i := 4) (oi := { dst := some 45, op := Go.Op.fieldAddr 38 (Go.Operand.tmp 8) 0, type := 0, pos := "ref.go:83", after := #[], guard := none }) (v := ?v4_n) #[false, true, true, false, true, false, false, false, false, false] rfl rfl (by kernel_rfl) (fun _ _ _ h => h) (Or.inl ⟨by rfl, ?hy4_n⟩) (by assumption) rfl ?rest4_n
          case hy4_n => (intro w hSw; (try dsimp only at hSw); go_simp; (first | done | with_reducible rfl))
          (try simp only [Act.put, List.setIfInBounds_toArray, List.set_cons_zero, List.set_cons_succ])
          refine take_ (i := 5) (oi := { dst := some 46, op := Go.Op.load 9 (Go.Operand.tmp 45), type := 9, pos := "ref.go:83", after := #[{ on := 4, ground := Go.Ground.data }], guard := none }) (v := ?v5_n) #[false, true, true, false, true, true, false, false, false, false] rfl rfl (by kernel_rfl) (fun _ _ _ h => h) (Or.inl ⟨by rfl, ?hy5_n⟩) (by assumption) rfl ?rest5_n
          case hy5_n => (intro w hSw; (try dsimp only at hSw); go_simp; (first | done | with_reducible rfl))
          (try simp only [Act.put, List.setIfInBounds_toArray, List.set_cons_zero, List.set_cons_succ])
          refine join_ 3 #[true, true, true, true, true, true, true, false, false, false] (fun s : Nat × Option Addr × Nat × Nat => [(41, .slice (some ⟨s.1, 0, none⟩) 0 0), (44, .slice s.2.1 L1.length s.2.2.1), (47, .slice (some ⟨s.2.2.2, 0, none⟩) 1 1)])
            (fun s w' => Below w5.heap.size w5 w' ∧ Kd.string.R 9 w' w5.heap.size (fun k => k ≠ s.2.2.2) (.slice s.2.1 L1.length s.2.2.1) L1.reverse ∧ w5.heap.size ≤ s.2.2.2 ∧ w'.heap[s.2.2.2]? = some (.cells #[.string x.f0] 9 (0, 0))) ?cont9 ?walk9
          case walk9 =>
            intro hcont
            refine two_ (i := 0) (j := 6) (oi := { dst := some 41, op := Go.Op.buildSlice 34 0 #[], type := 34, pos := "ref.go:83", after := #[], guard := none }) (oj := { dst := some 47, op := Go.Op.buildSlice 34 1 #[(0, Go.Operand.tmp 46)], type := 34, pos := "ref.go:83", after := #[{ on := 5, ground := Go.Ground.data }], guard := none }) #[true, true, true, false, true, true, false, false, false, false] #[false, true, true, false, true, true, true, false, false, false] rfl rfl rfl rfl (by kernel_rfl) (by decide) (by decide) (fun K hK => ?_) (fun K hK => ?_)
            · go_simp
              have hb7 : Below w5.heap.size w5 (w5.drew.alloc (.cells #[] 9)) := below_alloc hb6 _
              have ghb7 := heap_alloc_new w5.drew (.cells #[] 9)
              have shb7 : (w5.drew.alloc (.cells #[] 9)).heap.size = w5.drew.heap.size + 1 := World.size_alloc _ _
              refine hK.out _ _ (SB.out _ hb7) (fun hHeld_hb7 => ?_)
              clear hK K
              (try simp only [Act.put, List.setIfInBounds_toArray, List.set_cons_zero, List.set_cons_succ])
              refine two_ (i := 3) (j := 6) (oi := { dst := some 44, op := Go.Op.call { callee := Go.Callee.builtin Go.Builtin.append, args := #[Go.Operand.tmp 41, Go.Operand.tmp 43], argTypes := #[34, 34] }, type := 34, pos := "ref.go:83", after := #[{ on := 0, ground := Go.Ground.data }, { on := 2, ground := Go.Ground.data }], guard := none }) (oj := { dst := some 47, op := Go.Op.buildSlice 34 1 #[(0, Go.Operand.tmp 46)], type := 34, pos := "ref.go:83", after := #[{ on := 5, ground := Go.Ground.data }], guard := none }) #[true, true, true, true, true, true, false, false, false, false] #[true, true, true, false, true, true, true, false, false, false] rfl rfl rfl rfl (by kernel_rfl) (by decide) (by decide) (fun K hK => ?_) (fun K hK => ?_)
              · refine Kd.R_append_rows_step Kd.string (w0 := (w5.drew.alloc (.cells #[] 9))) w5.heap.size (by rfl) (.tmp 41) (.tmp 43) 34 9 (.string ⟨#[]⟩) 16 rfl Try.underlying34 info9 rfl (by decide) (by decide) (.slice (some ⟨w5.heap.size, 0, none⟩) 0 0) [] L1.reverse Ac1 L1.length cc1 (fun k => w5.heap.size ≤ k) (fun _ => False) rfl rfl (no_row ghb7 ?_ ?_) (CV.out _ hb7) (fun _ _ h => h) (fun _ h => h.elim) ?_ (Below.refl _ _) (hb7).size ?_ ?_
                · have := (hb7).size; omega
                · exact Nat.le_refl _
                · exact fun k hk => Nat.le_trans hb7.size hk
                · rw [List.length_nil]; omega
                · intro v3 w8 hR3 _ hg3 hat3
                  rw [List.nil_append] at hR3
                  obtain ⟨A3, c3, hv3⟩ := Kd.R_slice hR3
                  rw [List.length_reverse] at hv3
                  subst hv3
                  have hb8 : Below w5.heap.size w5 w8 := (hb7).grown hg3 (hb7).size (fun k hk => by injection hk with hk; show w5.heap.size ≤ k; rw [← hk]; show w5.heap.size ≤ w5.heap.size; have := (hb7).size; omega)
                  refine hK.out _ _ (SB.out _ hb8) (fun hHeld_hb8 => ?_)
                  clear hK K
                  (try simp only [Act.put, List.setIfInBounds_toArray, List.set_cons_zero, List.set_cons_succ])
                  refine one_ (i := 6) (oi := { dst := some 47, op := Go.Op.buildSlice 34 1 #[(0, Go.Operand.tmp 46)], type := 34, pos := "ref.go:83", after := #[{ on := 5, ground := Go.Ground.data }], guard := none }) #[true, true, true, true, true, true, true, false, false, false] rfl rfl (by kernel_rfl) (by decide) (fun K hK => ?_)
                  go_simp
                  have hb9 : Below w5.heap.size w5 (w8.alloc (.cells #[.string x.f0] 9)) := below_alloc hb8 _
                  have ghb9 := heap_alloc_new w8 (.cells #[.string x.f0] 9)
                  have shb9 : (w8.alloc (.cells #[.string x.f0] 9)).heap.size = w8.heap.size + 1 := World.size_alloc _ _
                  refine hK.out _ _ (SB.out _ hb9) (fun hHeld_hb9 => ?_)
                  clear hK K
                  (try simp only [Act.put, List.setIfInBounds_toArray, List.set_cons_zero, List.set_cons_succ])
                  have hc := hcont (w5.heap.size, A3, c3, w8.heap.size) _ ⟨hb9, Kd.R_alloc (Kd.R_mono (Kd.R_bound hR3) (fun k hk => Nat.ne_of_lt hk.2.2.1)) _, hb8.size, ghb9⟩
                  simp only [putAll, Act.put, List.setIfInBounds_toArray, List.set_cons_zero, List.set_cons_succ] at hc
                  exact hc
              · go_simp
                have hb8 : Below w5.heap.size w5 ((w5.drew.alloc (.cells #[] 9)).alloc (.cells #[.string x.f0] 9)) := below_alloc hb7 _
                have ghb8 := heap_alloc_new (w5.drew.alloc (.cells #[] 9)) (.cells #[.string x.f0] 9)
                have shb8 : ((w5.drew.alloc (.cells #[] 9)).alloc (.cells #[.string x.f0] 9)).heap.size = (w5.drew.alloc (.cells #[] 9)).heap.size + 1 := World.size_alloc _ _
                refine hK.out _ _ (SB.out _ hb8) (fun hHeld_hb8 => ?_)
                clear hK K
                (try simp only [Act.put, List.setIfInBounds_toArray, List.set_cons_zero, List.set_cons_succ])
                refine one_ (i := 3) (oi := { dst := some 44, op := Go.Op.call { callee := Go.Callee.builtin Go.Builtin.append, args := #[Go.Operand.tmp 41, Go.Operand.tmp 43], argTypes := #[34, 34] }, type := 34, pos := "ref.go:83", after := #[{ on := 0, ground := Go.Ground.data }, { on := 2, ground := Go.Ground.data }], guard := none }) #[true, true, true, true, true, true, true, false, false, false] rfl rfl (by kernel_rfl) (by decide) (fun K hK => ?_)
                refine Kd.R_append_rows_step Kd.string (w0 := ((w5.drew.alloc (.cells #[] 9)).alloc (.cells #[.string x.f0] 9))) w5.heap.size (by rfl) (.tmp 41) (.tmp 43) 34 9 (.string ⟨#[]⟩) 16 rfl Try.underlying34 info9 rfl (by decide) (by decide) (.slice (some ⟨w5.heap.size, 0, none⟩) 0 0) [] L1.reverse Ac1 L1.length cc1 (fun k => k ≠ w5.heap.size + 1) (fun _ => False) rfl rfl (no_row ((Below.heap_alloc _ _ _ (Nat.lt_of_lt_of_eq (Nat.lt_succ_self _) shb7.symm)).trans ghb7) ?_ ?_) (CV.out _ hb8) (fun _ _ h => h) (fun _ h => h.elim) ?_ (Below.refl _ _) (hb8).size ?_ ?_
                · have := (hb8).size; omega
                · exact Nat.ne_of_lt (Nat.lt_succ_self _)
                · exact fun k hk => Nat.ne_of_gt (Nat.lt_of_lt_of_le (Nat.lt_of_lt_of_eq (Nat.lt_succ_self (w5.heap.size + 1)) (shb8.trans (congrArg (· + 1) shb7)).symm) hk)
                · rw [List.length_nil]; omega
                · intro v3 w9 hR3 _ hg3 hat3
                  rw [List.nil_append] at hR3
                  obtain ⟨A3, c3, hv3⟩ := Kd.R_slice hR3
                  rw [List.length_reverse] at hv3
                  subst hv3
                  have hb9 : Below w5.heap.size w5 w9 := (hb8).grown hg3 (hb8).size (fun k hk => by injection hk with hk; show w5.heap.size ≤ k; rw [← hk]; show w5.heap.size ≤ w5.heap.size; have := (hb8).size; omega)
                  refine hK.out _ _ (SB.out _ hb9) (fun hHeld_hb9 => ?_)
                  clear hK K
                  (try simp only [Act.put, List.setIfInBounds_toArray, List.set_cons_zero, List.set_cons_succ])
                  have hc := hcont (w5.heap.size, A3, c3, w5.heap.size + 1) _ ⟨hb9, hR3, Nat.le_succ _, (hg3.block _ (Nat.lt_of_lt_of_eq (Nat.lt_succ_self (w5.heap.size + 1)) (shb8.trans (congrArg (· + 1) shb7)).symm) (fun e => absurd (Option.some.inj (show some (w5.heap.size + 1) = some w5.heap.size from e)) (by omega))).trans (shb7 ▸ ghb8)⟩
                  simp only [putAll, Act.put, List.setIfInBounds_toArray, List.set_cons_zero, List.set_cons_succ] at hc
                  exact hc
            · go_simp
              have hb7 : Below w5.heap.size w5 (w5.drew.alloc (.cells #[.string x.f0] 9)) := below_alloc hb6 _
              have ghb7 := heap_alloc_new w5.drew (.cells #[.string x.f0] 9)
              have shb7 : (w5.drew.alloc (.cells #[.string x.f0] 9)).heap.size = w5.drew.heap.size + 1 := World.size_alloc _ _
              refine hK.out _ _ (SB.out _ hb7) (fun hHeld_hb7 => ?_)
              clear hK K
              (try simp only [Act.put, List.setIfInBounds_toArray, List.set_cons_zero, List.set_cons_succ])
              refine one_ (i := 0) (oi := { dst := some 41, op := Go.Op.buildSlice 34 0 #[], type := 34, pos := "ref.go:83", after := #[], guard := none }) #[true, true, true, false, true, true, true, false, false, false] rfl rfl (by kernel_rfl) (by decide) (fun K hK => ?_)
              go_simp
              have hb8 : Below w5.heap.size w5 ((w5.drew.alloc (.cells #[.string x.f0] 9)).alloc (.cells #[] 9)) := below_alloc hb7 _
              have ghb8 := heap_alloc_new (w5.drew.alloc (.cells #[.string x.f0] 9)) (.cells #[] 9)
              have shb8 : ((w5.drew.alloc (.cells #[.string x.f0] 9)).alloc (.cells #[] 9)).heap.size = (w5.drew.alloc (.cells #[.string x.f0] 9)).heap.size + 1 := World.size_alloc _ _
              refine hK.out _ _ (SB.out _ hb8) (fun hHeld_hb8 => ?_)
              clear hK K
              (try simp only [Act.put, List.setIfInBounds_toArray, List.set_cons_zero, List.set_cons_succ])
              refine one_ (i := 3) (oi := { dst := some 44, op := Go.Op.call { callee := Go.Callee.builtin Go.Builtin.append, args := #[Go.Operand.tmp 41, Go.Operand.tmp 43], argTypes := #[34, 34] }, type := 34, pos := "ref.go:83", after := #[{ on := 0, ground := Go.Ground.data }, { on := 2, ground := Go.Ground.data }], guard := none }) #[true, true, true, true, true, true, true, false, false, false] rfl rfl (by kernel_rfl) (by decide) (fun K hK => ?_)
              refine Kd.R_append_rows_step Kd.string (w0 := ((w5.drew.alloc (.cells #[.string x.f0] 9)).alloc (.cells #[] 9))) w5.heap.size (by rfl) (.tmp 41) (.tmp 43) 34 9 (.string ⟨#[]⟩) 16 rfl Try.underlying34 info9 rfl (by decide) (by decide) (.slice (some ⟨(w5.heap.size + 1), 0, none⟩) 0 0) [] L1.reverse Ac1 L1.length cc1 (fun k => k ≠ w5.heap.size) (fun _ => False) rfl rfl (no_row (shb7 ▸ ghb8) ?_ ?_) (CV.out _ hb8) (fun _ _ h => h) (fun _ h => h.elim) ?_ (Below.refl _ _) (hb8).size ?_ ?_
              · have := (hb8).size; omega
              · exact Nat.ne_of_gt (Nat.lt_succ_self _)
              · exact fun k hk => Nat.ne_of_gt (Nat.lt_of_lt_of_le (Nat.lt_of_lt_of_eq (Nat.lt_succ_of_lt (Nat.lt_succ_self w5.heap.size)) (shb8.trans (congrArg (· + 1) shb7)).symm) hk)
              · rw [List.length_nil]; omega
              · intro v3 w9 hR3 _ hg3 hat3
                rw [List.nil_append] at hR3
                obtain ⟨A3, c3, hv3⟩ := Kd.R_slice hR3
                rw [List.length_reverse] at hv3
                subst hv3
                have hb9 : Below w5.heap.size w5 w9 := (hb8).grown hg3 (hb8).size (fun k hk => by injection hk with hk; show w5.heap.size ≤ k; rw [← hk]; show w5.heap.size ≤ (w5.heap.size + 1); have := (hb8).size; omega)
                refine hK.out _ _ (SB.out _ hb9) (fun hHeld_hb9 => ?_)
                clear hK K
                (try simp only [Act.put, List.setIfInBounds_toArray, List.set_cons_zero, List.set_cons_succ])
                have hc := hcont (w5.heap.size + 1, A3, c3, w5.heap.size) _ ⟨hb9, hR3, Nat.le_refl _, (hg3.block _ (Nat.lt_of_lt_of_eq (Nat.lt_succ_of_lt (Nat.lt_succ_self w5.heap.size)) (shb8.trans (congrArg (· + 1) shb7)).symm) (fun e => absurd (Option.some.inj (show some w5.heap.size = some (w5.heap.size + 1) from e)) (by omega))).trans ((Below.heap_alloc _ _ _ (Nat.lt_of_lt_of_eq (Nat.lt_succ_self _) shb7.symm)).trans ghb7)⟩
                simp only [putAll, Act.put, List.setIfInBounds_toArray, List.set_cons_zero, List.set_cons_succ] at hc
                exact hc
          case cont9 =>
            rintro ⟨ge, A44, c44, gx⟩ w8 ⟨hb8, hR8, hgx, hg8⟩
            dsimp only at hR8 hgx hg8
            simp only [putAll, Act.put, List.setIfInBounds_toArray, List.set_cons_zero, List.set_cons_succ]
            have HB9 := Lib.hid hb8; clear hb8
            have HR8 := Lib.hid hR8; clear hR8
            have HG8 := Lib.hid hg8; clear hg8
            refine one_ (i := 7) (oi := { dst := some 48, op := Go.Op.call { callee := Go.Callee.builtin Go.Builtin.append, args := #[Go.Operand.tmp 44, Go.Operand.tmp 47], argTypes := #[34, 34] }, type := 34, pos := "ref.go:83", after := #[{ on := 3, ground := Go.Ground.data }, { on := 6, ground := Go.Ground.data }, { on := 3, ground := Go.Ground.chain }], guard := none }) #[true, true, true, true, true, true, true, true, false, false] rfl rfl (by kernel_rfl) (by decide) (fun K hK => ?_)
            refine Kd.R_append_rows_step Kd.string (w0 := w8) w5.heap.size (by rfl) (.tmp 44) (.tmp 47) 34 9 (.string ⟨#[]⟩) 16 rfl Try.underlying34 info9 rfl (by decide) (by decide) (.slice A44 L1.length c44) L1.reverse [x.f0] (some ⟨gx, 0, none⟩) 1 1 (fun _ => True) (fun _ => False) rfl rfl (Kd.R_mono HR8.out (fun _ _ => trivial)) (Kd.R_reads' (one_str HG8.out hgx)).2.2 (fun _ _ h => h) (fun _ h => h.elim) (fun _ _ => trivial) (Below.refl _ _) HB9.out.size ?_ ?_
            · rw [List.length_reverse]; omega
            · intro v9 w9 hR9 _ hg9 hat9
              rw [← List.reverse_cons] at hR9
              obtain ⟨A9, c9, hv9⟩ := Kd.R_slice hR9
              rw [List.length_reverse, List.length_cons] at hv9
              subst hv9
              have hb9 : Below w5.heap.size w5 w9 := HB9.out.grown hg9 HB9.out.size (fun k hk => Kd.R_base HR8.out k hk)
              have HR9 := Lib.hid hR9; clear hR9
              have hB9 := Lib.hid hb9
              refine hK.out _ _ (SB.out _ hb9) (fun hHeld9 => ?_)
              clear hK K
              (try simp only [Act.put, List.setIfInBounds_toArray, List.set_cons_zero, List.set_cons_succ])
              refine take_ (i := 8) (oi := { dst := some 49, op := Go.Op.fieldAddr 47 (Go.Operand.tmp 2) 3, type := 0, pos := "ref.go:83", after := #[{ on := 0, ground := Go.Ground.phase }, { on := 1, ground := Go.Ground.phase }, { on := 2, ground := Go.Ground.phase }, { on := 3, ground := Go.Ground.phase }, { on := 4, ground := Go.Ground.phase }, { on := 5, ground := Go.Ground.phase }, { on := 6, ground := Go.Ground.phase }, { on := 7, ground := Go.Ground.phase }], guard := none }) (v := ?v8_n) #[true, true, true, true, true, true, true, true, true, false] rfl rfl (by kernel_rfl) (fun _ _ _ h => h) (Or.inl ⟨by rfl, ?hy8_n⟩) hHeld9 rfl ?rest8_n
              case hy8_n => (intro w hSw; (try dsimp only at hSw); go_simp; (first | done | with_reducible rfl))
              (try simp only [Act.put, List.setIfInBounds_toArray, List.set_cons_zero, List.set_cons_succ])
              refine last_ (i := 9) (oi := { dst := none, op := Go.Op.store 34 (Go.Operand.tmp 49) (Go.Operand.tmp 48), type := 0, pos := "ref.go:83", after := #[{ on := 8, ground := Go.Ground.data }, { on := 7, ground := Go.Ground.data }, { on := 7, ground := Go.Ground.chain }, { on := 0, ground := Go.Ground.phase }, { on := 1, ground := Go.Ground.phase }, { on := 2, ground := Go.Ground.phase }, { on := 3, ground := Go.Ground.phase }, { on := 4, ground := Go.Ground.phase }, { on := 5, ground := Go.Ground.phase }, { on := 6, ground := Go.Ground.phase }, { on := 7, ground := Go.Ground.phase }], guard := none }) #[true, true, true, true, true, true, true, true, true, true] rfl rfl (by kernel_rfl) (by decide) (fun K hK => ?_)
              have hx9 := (hB9.out.block _ hxl5).trans HX5.out
              have f9 : w9.frozen? ⟨W.heap.size, 3, none⟩ = false := by simp [World.frozen?, hx9]
              have f99 := (blk_cell hx9 3).trans rfl
              go_simp
              refine hK.out _ _ ?_
              clear hK K
              refine done_ (by kernel_rfl) ?_
              have vk : Kept wr (w9.setCell ⟨W.heap.size, 3, none⟩ (.slice A9 (L1.length + 1) c9)) (fun k => k = W.heap.size) := by
                have e0 : (fun k : Nat => k = W.heap.size) W.heap.size := rfl
                exact (((Kept.refl wr (fun k => k = W.heap.size)).below HB5.out).below hB9.out).setCell (p := ⟨W.heap.size, 3, none⟩) (.inl e0) _
              have vk5 : Kept w5 (w9.setCell ⟨W.heap.size, 3, none⟩ (.slice A9 (L1.length + 1) c9)) (fun k => k = W.heap.size) := by
                have e0 : (fun k : Nat => k = W.heap.size) W.heap.size := rfl
                exact ((Kept.refl w5 (fun k => k = W.heap.size)).below hB9.out).setCell (p := ⟨W.heap.size, 3, none⟩) (.inl e0) _
              have hB10 : Below W.heap.size W (w9.setCell ⟨W.heap.size, 3, none⟩ (.slice A9 (L1.length + 1) c9)) := ((HB1.out.trans (HB5.out.mono HB1.out.size)).trans (hB9.out.mono (Nat.le_trans HB1.out.size HB5.out.size))).setCell (p := ⟨W.heap.size, 3, none⟩) (Nat.le_refl _) _
              have hkb : ∀ k, okB ok0 W.heap.size k → ¬ k = W.heap.size := fun k hk => by rcases hk with h | h <;> omega
              have x10 : (w9.setCell ⟨W.heap.size, 3, none⟩ (.slice A9 (L1.length + 1) c9)).heap[W.heap.size]? = some (.cells #[.int .i64 dep, .bool sug, .slice (some ⟨b, o, none⟩) (rest.length + 1) cr1, .slice A9 (L1.length + 1) c9] 47 (0, 0)) := by simpa using blk_set hx9 3 (.slice A9 (L1.length + 1) c9)
              have y10 : (w9.setCell ⟨W.heap.size, 3, none⟩ (.slice A9 (L1.length + 1) c9)).heap[W.heap.size + 1]? = _ := (vk5.2 _ (blk_lt HY5.out) (by omega)).trans HY5.out
              have z10 : (w9.setCell ⟨W.heap.size, 3, none⟩ (.slice A9 (L1.length + 1) c9)).heap[W.heap.size + 2]? = _ := (vk5.2 _ (blk_lt HZ5.out) (by omega)).trans HZ5.out
              have t10 : (w9.setCell ⟨W.heap.size, 3, none⟩ (.slice A9 (L1.length + 1) c9)).heap[wr.heap.size]? = _ := (vk5.2 _ hb8l (by omega)).trans HB8.out
              have f10 : (w9.setCell ⟨W.heap.size, 3, none⟩ (.slice A9 (L1.length + 1) c9)).heap[w3.heap.size]? = _ := (vk5.2 _ (blk_lt HB41.out) (by omega)).trans HB41.out
              have hRest := Lib.hid (Kd.V_kept HRS.out vk hkb)
              have hKids := Lib.hid (Kd.V_kept HV5.out vk5 hkb)
              have hX10 := Lib.hid (Kd.FK_step HFK.out (fun k hk hlt => vk.2 k hlt (hkb k hk)))
              have hCame : Hid (Kd.V Kd.string 9 (w9.setCell ⟨W.heap.size, 3, none⟩ (.slice A9 (L1.length + 1) c9)) 0 (okB ok0 W.heap.size) (.slice A9 (L1.length + 1) c9) (x.f0 :: L1).reverse) := by
                refine Lib.hid ?_
                have h1 := Kd.R_V (base' := 0) (Kd.R_mono (Kd.R_bound HR9.out) (ok' := okB ok0 W.heap.size) (fun k hk => .inr (by have := hk.2.1; have := HB5.out.size; omega)))
                exact Kd.V_far (p := ⟨W.heap.size, 3, none⟩) h1 (fun k hk => hkb k hk) _
              have hsz10 : wr.heap.size + 1 ≤ (w9.setCell ⟨W.heap.size, 3, none⟩ (.slice A9 (L1.length + 1) c9)).heap.size := by have := blk_lt t10; omega
              clear hb9 f9 f99 a0 a1 a2 a3 q0 q1 q2 g1 g2 af hx9
              generalize (w9.setCell ⟨W.heap.size, 3, none⟩ (.slice A9 (L1.length + 1) c9)) = wt at *
              have a0 := (blk_cell x10 0).trans rfl
              have a1 := (blk_cell x10 1).trans rfl
              have a2 := (blk_cell x10 2).trans rfl
              have a3 := (blk_cell x10 3).trans rfl
              have af : ∀ i, wt.frozen? ⟨W.heap.size, i, none⟩ = false := fun i => by simp [World.frozen?, x10]
              have q0 := (blk_cell t10 0).trans rfl
              have q1 := (blk_cell t10 1).trans rfl
              have q2 := (blk_cell t10 2).trans rfl
              have g0 := (blk_cell f10 0).trans rfl
              have g1 := (blk_cell f10 1).trans rfl
              have g2 := (blk_cell f10 2).trans rfl
              have XX := Lib.hid x10; clear x10
              have YY := Lib.hid y10; clear y10
              have ZZ := Lib.hid z10; clear z10
              have TT := Lib.hid t10; clear t10
              have FF := Lib.hid f10; clear f10
              have BB := Lib.hid hB10; clear hB10
              have VK := Lib.hid vk; clear vk vk5
              have hwl : W.heap.size + 3 ≤ wt.heap.size := by omega
              cases hk2 : ((askM l x.f0).1 == 2) with
              | true =>
                by_cases hlt : x.f1 < dep
                · go_wp2_with fail
                  have hkl := (HF.out x.f0).1
                  have hKF := Kd.V_F hKids.out
                  obtain ⟨fc, hcells, hfs⟩ := child_cells hKF
                  have KC := Lib.hid hcells; clear hcells
                  have KS := Lib.hid hfs; clear hfs hKF
                  obtain ⟨wo, rfl⟩ : ∃ wo : World, wo = wr := ⟨_, rfl⟩
                  go_loopg [11, 63] (askM l x.f0).2.length (fun kq t11 t63 wz => ∃ i : Nat, i ≤ (askM l x.f0).2.length ∧ t63 = .int .i64 (i : Int) ∧ kq = (askM l x.f0).2.length - i ∧ Kd.N k38 38 wz wt.heap.size (fun k => okB ok0 W.heap.size k) t11 ((((askM l x.f0).2.take i).filter (counts sug)).map (stepOf x.f1)) ∧ Below wt.heap.size wt wz)
                  case atStart => exact ⟨0, Nat.zero_le _, rfl, rfl, Kd.N_nil _ _ _ _ _, Below.refl _ _⟩
                  case round =>
                    obtain ⟨i, hil, rfl, rfl, hN, hBz⟩ := hrel
                    have hkln : ((((askM l x.f0).2.take i).filter (counts sug)).map (stepOf x.f1)).length ≤ i := by
                      rw [List.length_map]
                      exact Nat.le_trans (List.length_filter_le _ _) (by rw [List.length_take]; omega)
                    have HNz := Lib.hid hN; clear hN
                    have BZ := Lib.hid hBz; clear hBz
                    clear a0 a1 a2 a3 af q0 q1 q2 g0 g1 g2
                    have x1 := (BZ.out.block _ (blk_lt XX.out)).trans XX.out
                    have t1 := (BZ.out.block _ (blk_lt TT.out)).trans TT.out
                    have f1 := (BZ.out.block _ (blk_lt FF.out)).trans FF.out
                    have a1 := (blk_cell x1 1).trans rfl
                    have b1 := (blk_cell t1 1).trans rfl
                    have g2 := (blk_cell f1 2).trans rfl
                    have X1 := Lib.hid x1; clear x1
                    have T1 := Lib.hid t1; clear t1
                    have F1 := Lib.hid f1; clear f1
                    by_cases hi : i < (askM l x.f0).2.length
                    · obtain ⟨bk, offk, hA, hok, hcc⟩ := KC.out (by omega)
                      obtain ⟨e0, e1, e2, e3, e4⟩ := hcc i hi
                      have hblt := World.block_lt_of_cell? _ _ e0
                      obtain ⟨A5, c5, hfi, hF5, hc5⟩ := KS.out i hi
                      rw [hfi] at e0 e1 e2 e3 e4
                      have hsn : (((askM l x.f0).2.take (i + 1)).filter (counts sug)).map (stepOf x.f1) = (((askM l x.f0).2.take i).filter (counts sug)).map (stepOf x.f1) ++ (if counts sug (askM l x.f0).2[i] then [stepOf x.f1 (askM l x.f0).2[i]] else []) := by
                        rw [List.take_succ_eq_append_getElem hi, List.filter_append, List.map_append]
                        congr 1
                        by_cases hcn : counts sug (askM l x.f0).2[i] = true <;> simp [hcn]
                      have HSN := Lib.hid hsn; clear hsn
                      generalize hch : (askM l x.f0).2[i] = ch at *
                      have HCH := Lib.hid hch; clear hch
                      have e0 : wr.cell? ⟨bk, offk + i * 5, none⟩ = some (.string ch.f0) := (BZ.out.cell (p := ⟨bk, offk + i * 5, none⟩) hblt).trans e0
                      have e1 : wr.cell? ⟨bk, offk + i * 5 + 1, none⟩ = some (.string ch.f1) := (BZ.out.cell (p := ⟨bk, offk + i * 5 + 1, none⟩) hblt).trans e1
                      have e2 : wr.cell? ⟨bk, offk + i * 5 + 2, none⟩ = some (.slice A5 ch.f2.length c5) := (BZ.out.cell (p := ⟨bk, offk + i * 5 + 2, none⟩) hblt).trans e2
                      have e3 : wr.cell? ⟨bk, offk + i * 5 + 3, none⟩ = some (.bool ch.f3) := (BZ.out.cell (p := ⟨bk, offk + i * 5 + 3, none⟩) hblt).trans e3
                      have e4 : wr.cell? ⟨bk, offk + i * 5 + 4, none⟩ = some (.int .i64 ch.f4) := (BZ.out.cell (p := ⟨bk, offk + i * 5 + 4, none⟩) hblt).trans e4
                      subst hA
                      have HF5 := Lib.hid hF5; clear hF5
                      clear hcc hfi hok
                      have hBzs := BZ.out.size
                      have hxlr : W.heap.size < wr.heap.size := by omega
                      have hblr : wo.heap.size < wr.heap.size := by omega
                      have hxb := HS.out x List.mem_cons_self
                      have hxb1 := hxb.2.1
                      have hxb2 := hxb.2.2.1
                      clear hxb
                      rcases Bool.eq_false_or_eq_true ch.f3 with hf3 | hf3
                      · rw [hf3] at e3
                        have hct : counts sug ch = true := by simp [counts, hf3]
                        have hsn2 := HSN.out; rw [if_pos hct] at hsn2
                        clear HSN
                        have HSN := Lib.hid hsn2; clear hsn2
                        have HF3 := Lib.hid hf3; clear hf3 hct
                        go_wp2_with ((with_reducible refine gate_builtin (b := .append) (xs := #[.tmp 78, .tmp 87]) rfl ?_); at_builtin; refine Kd.N_append k38 (w0 := wt) (W := wr.alloc (.cells #[.string ch.f0, .string ch.f1, .slice A5 ch.f2.length c5, .bool true, .int .i64 ch.f4] 44)) wt.heap.size rfl (.tmp 78) (.tmp 87) 31 38 (.agg #[.string ⟨#[]⟩, .int .i64 0, .slice none 0 0]) 48 rfl Try.underlying31 info38 rfl (by decide) (by decide) u11 _ (stepOf x.f1 ch) [.string ch.f0, .int .i64 (x.f1 + 1), .slice A5 ch.f2.length c5] (fun k => okB ok0 W.heap.size k) (fun k => okB ok0 W.heap.size k ∧ k < wt.heap.size) rfl (by rw [World.size_alloc]; rfl) (k38_mkF _ _ (stepOf x.f1 ch) hc5 (Kd.F_alloc (Kd.F_below (Kd.F_bound HF5.out) BZ.out) _)) ?hkpx1 (fun k hk => .inr (by rw [World.size_alloc] at hk; omega)) (Kd.N_alloc HNz.out _) (BZ.out.alloc BZ.out.size _) (by rw [World.size_alloc]; omega) ?hlnx1 ?happx1)
                        case hkpx1 => exact fun k hk1 hk2 => ⟨hk1, fun e => by have := Kd.N_base HNz.out k e.symm; omega⟩
                        case hlnx1 => (have h9 := hkln; rw [List.length_map] at h9; omega)
                        case happx1 =>
                          intro v1 w1 hN1 hbig hg1 hat1
                          have hN1 := HSN.out.symm ▸ hN1
                          go_wp2_with fail
                          go_roundg ((askM l x.f0).2.length - (i + 1))
                          case rel => exact ⟨i + 1, by omega, by go_num, rfl, hN1, hbig⟩
                          case measure => omega
                      · rw [hf3] at e3
                        rcases Bool.eq_false_or_eq_true sug with hsg | hsg
                        · rw [hsg] at a1
                          have hct : ¬ counts sug ch = true := by simp [counts, hf3, hsg]
                          have hsn2 := HSN.out; rw [if_neg hct, List.append_nil] at hsn2
                          clear HSN hct hf3 hsg
                          have HSN := Lib.hid hsn2; clear hsn2
                          go_wp2_with fail
                          go_roundg ((askM l x.f0).2.length - (i + 1))
                          case rel => exact ⟨i + 1, by omega, by go_num, rfl, HSN.out ▸ Kd.N_alloc HNz.out _, BZ.out.alloc BZ.out.size _⟩
                          case measure => omega
                        · rw [hsg] at a1
                          have hct : counts sug ch = true := by simp [counts, hf3, hsg]
                          have hsn2 := HSN.out; rw [if_pos hct] at hsn2
                          clear HSN hct hf3 hsg
                          have HSN := Lib.hid hsn2; clear hsn2
                          go_wp2_with ((with_reducible refine gate_builtin (b := .append) (xs := #[.tmp 78, .tmp 87]) rfl ?_); at_builtin; refine Kd.N_append k38 (w0 := wt) (W := wr.alloc (.cells #[.string ch.f0, .string ch.f1, .slice A5 ch.f2.length c5, .bool false, .int .i64 ch.f4] 44)) wt.heap.size rfl (.tmp 78) (.tmp 87) 31 38 (.agg #[.string ⟨#[]⟩, .int .i64 0, .slice none 0 0]) 48 rfl Try.underlying31 info38 rfl (by decide) (by decide) u11 _ (stepOf x.f1 ch) [.string ch.f0, .int .i64 (x.f1 + 1), .slice A5 ch.f2.length c5] (fun k => okB ok0 W.heap.size k) (fun k => okB ok0 W.heap.size k ∧ k < wt.heap.size) rfl (by rw [World.size_alloc]; rfl) (k38_mkF _ _ (stepOf x.f1 ch) hc5 (Kd.F_alloc (Kd.F_below (Kd.F_bound HF5.out) BZ.out) _)) ?hkpx2 (fun k hk => .inr (by rw [World.size_alloc] at hk; omega)) (Kd.N_alloc HNz.out _) (BZ.out.alloc BZ.out.size _) (by rw [World.size_alloc]; omega) ?hlnx2 ?happx2)
                          case hkpx2 => exact fun k hk1 hk2 => ⟨hk1, fun e => by have := Kd.N_base HNz.out k e.symm; omega⟩
                          case hlnx2 => (have h9 := hkln; rw [List.length_map] at h9; omega)
                          case happx2 =>
                            intro v1 w1 hN1 hbig hg1 hat1
                            have hN1 := HSN.out.symm ▸ hN1
                            go_wp2_with fail
                            go_roundg ((askM l x.f0).2.length - (i + 1))
                            case rel => exact ⟨i + 1, by omega, by go_num, rfl, hN1, hbig⟩
                            case measure => omega
                    · have hie : i = (askM l x.f0).2.length := by omega
                      have hkd : ((((askM l x.f0).2.take i).filter (counts sug)).map (stepOf x.f1)) = belowM dep sug x.f1 (askM l x.f0).2 := by
                        rw [hie, List.take_length]
                        exact (if_pos hlt).symm
                      generalize ((((askM l x.f0).2.take i).filter (counts sug)).map (stepOf x.f1)) = kd at *
                      have HKD := Lib.hid hkd; clear hkd
                      obtain ⟨Akd, ckd, hvk⟩ := Kd.N_slice HNz.out
                      subst hvk
                      go_wp2_with ((with_reducible refine gate_builtin (b := .append) (xs := #[.tmp 90, .tmp 91]) rfl ?_); at_builtin; refine Kd.N_append_rows k38 (w0 := wt) wt.heap.size rfl (.tmp 90) (.tmp 91) 31 38 (.agg #[.string ⟨#[]⟩, .int .i64 0, .slice none 0 0]) 48 rfl Try.underlying31 info38 rfl (by decide) (by decide) (.slice Akd kd.length ckd) kd rest Aq rest.length (cr1 - 1) (fun k => okB ok0 W.heap.size k) (fun k => okB ok0 W.heap.size k ∧ k < wt.heap.size) rfl rfl HNz.out (Kd.F_below (Kd.F_bound (Kd.V_F hRest.out)) BZ.out) ?hkp (fun k hk => .inr (by have := BZ.out.size; omega)) BZ.out BZ.out.size ?hln ?happ)
                      case hkp => exact fun k hk => ⟨hk.1, fun e => by have := Kd.N_base HNz.out k e.symm; omega⟩
                      case hln => omega
                      case happ =>
                        intro v1 w1 hN1 hbig hg1 hat1
                        obtain ⟨A1, c1, rfl⟩ := Kd.N_slice hN1
                        rw [List.length_append] at hN1
                        have x1 := (hbig.block _ (blk_lt XX.out)).trans XX.out
                        have y1 := (hbig.block _ (blk_lt YY.out)).trans YY.out
                        have z1 := (hbig.block _ (blk_lt ZZ.out)).trans ZZ.out
                        have t1 := (hbig.block _ (blk_lt TT.out)).trans TT.out
                        have f1 := (hbig.block _ (blk_lt FF.out)).trans FF.out
                        have hb11 : Below W.heap.size W w1 := BB.out.trans (hbig.mono (by omega))
                        have hkb2 : ∀ k, okB ok0 W.heap.size k → k ≠ W.heap.size := fun k hk => by rcases hk with h | h <;> omega
                        have r12 := Kd.V_far (p := ⟨W.heap.size, 2, none⟩) (Kd.N_V (base' := 0) hN1) hkb2 (.slice A1 (kd.length + rest.length) c1)
                        have k12 := Kd.V_far (p := ⟨W.heap.size, 2, none⟩) (Kd.V_below hCame.out hbig) hkb2 (.slice A1 (kd.length + rest.length) c1)
                        have m12 := Kd.FK_step (Kd.FK_below hX10.out hbig) (W1 := w1.setCell ⟨W.heap.size, 2, none⟩ (.slice A1 (kd.length + rest.length) c1)) (fun k hk _ => Below.heap_setCell w1 ⟨W.heap.size, 2, none⟩ (.slice A1 (kd.length + rest.length) c1) k (hkb2 k hk))
                        have b12 := hb11.setCell (p := ⟨W.heap.size, 2, none⟩) (Nat.le_refl _) (.slice A1 (kd.length + rest.length) c1)
                        have x12 : (w1.setCell ⟨W.heap.size, 2, none⟩ (.slice A1 (kd.length + rest.length) c1)).heap[W.heap.size]? = some (.cells #[.int .i64 dep, .bool sug, .slice A1 (kd.length + rest.length) c1, .slice A9 (L1.length + 1) c9] 47 (0, 0)) := by simpa using blk_set x1 2 (.slice A1 (kd.length + rest.length) c1)
                        have y12 := (Below.heap_setCell w1 ⟨W.heap.size, 2, none⟩ (.slice A1 (kd.length + rest.length) c1) (W.heap.size + 1) (by show W.heap.size + 1 ≠ W.heap.size; omega)).trans y1
                        have z12 := (Below.heap_setCell w1 ⟨W.heap.size, 2, none⟩ (.slice A1 (kd.length + rest.length) c1) (W.heap.size + 2) (by show W.heap.size + 2 ≠ W.heap.size; omega)).trans z1
                        have t12 := (Below.heap_setCell w1 ⟨W.heap.size, 2, none⟩ (.slice A1 (kd.length + rest.length) c1) wo.heap.size (by show wo.heap.size ≠ W.heap.size; omega)).trans t1
                        have f12 := (Below.heap_setCell w1 ⟨W.heap.size, 2, none⟩ (.slice A1 (kd.length + rest.length) c1) w3.heap.size (by show w3.heap.size ≠ W.heap.size; omega)).trans f1
                        clear a1 b1 g2
                        have a2 := (blk_cell x1 2).trans rfl
                        have af : ∀ i, w1.frozen? ⟨W.heap.size, i, none⟩ = false := fun i => by simp [World.frozen?, x1]
                        have g1 := (blk_cell f1 1).trans rfl
                        have X12 := Lib.hid x12; clear x12 x1
                        have Y12 := Lib.hid y12; clear y12 y1
                        have Z12 := Lib.hid z12; clear z12 z1
                        have T12 := Lib.hid t12; clear t12 t1
                        have F12 := Lib.hid f12; clear f12 f1
                        have R12 := Lib.hid r12; clear r12
                        have K12 := Lib.hid k12; clear k12
                        have M12 := Lib.hid m12; clear m12
                        have B12 := Lib.hid b12; clear b12
                        clear hN1 hg1 hat1 hb11 hbig
                        go_wp2_with fail
                        generalize (w1.setCell ⟨W.heap.size, 2, none⟩ (.slice A1 (kd.length + rest.length) c1)) = wv at *
                        clear a2 af g1
                        have a0 := (blk_cell X12.out 0).trans rfl
                        have a1 := (blk_cell X12.out 1).trans rfl
                        have a2 := (blk_cell X12.out 2).trans rfl
                        have a3 := (blk_cell X12.out 3).trans rfl
                        have q0 := (blk_cell T12.out 0).trans rfl
                        have q1 := (blk_cell T12.out 1).trans rfl
                        have q2 := (blk_cell T12.out 2).trans rfl
                        have y0 := (blk_cell Y12.out 0).trans rfl
                        have y1 := (blk_cell Y12.out 1).trans rfl
                        have y2 := (blk_cell Y12.out 2).trans rfl
                        have y3 := (blk_cell Y12.out 3).trans rfl
                        have yf : ∀ i, wv.frozen? ⟨W.heap.size + 1, i, none⟩ = false := fun i => by simp [World.frozen?, Y12.out]
                        have z0 := (blk_cell Z12.out 0).trans rfl
                        have z1 := (blk_cell Z12.out 1).trans rfl
                        have z2 := (blk_cell Z12.out 2).trans rfl
                        have zf : ∀ i, wv.frozen? ⟨W.heap.size + 2, i, none⟩ = false := fun i => by simp [World.frozen?, Z12.out]
                        have hyl5 := blk_lt Y12.out
                        have hzl5 := blk_lt Z12.out
                        refine start_ (S := (fun w' : World => w'.cell? ⟨W.heap.size, 0, none⟩ = some (.int .i64 dep) ∧ w'.cell? ⟨W.heap.size, 1, none⟩ = some (.bool sug) ∧ w'.cell? ⟨W.heap.size, 2, none⟩ = some (.slice A1 (kd.length + rest.length) c1) ∧ w'.cell? ⟨W.heap.size, 3, none⟩ = some (.slice A9 (L1.length + 1) c9) ∧ w'.cell? ⟨wo.heap.size, 0, none⟩ = some (.string x.f0) ∧ w'.cell? ⟨wo.heap.size, 1, none⟩ = some (.int .i64 x.f1) ∧ w'.cell? ⟨wo.heap.size, 2, none⟩ = some (.slice A2 x.f2.length c2))) (ds := [5]) #[false, false, false, false, false, false] rfl rfl rfl ⟨a0, a1, a2, a3, q0, q1, q2⟩ (fun hHeld => ?_)
                        refine take_ (i := 0) (oi := { dst := some 97, op := Go.Op.load 47 (Go.Operand.tmp 2), type := 47, pos := "ref.go:95", after := #[], guard := none }) (v := ?v0_w) #[true, false, false, false, false, false] rfl rfl (by kernel_rfl) (fun _ _ _ h => h) (Or.inl ⟨by rfl, ?hy0_w⟩) (by assumption) rfl ?rest0_w
                        case hy0_w => (intro w hSw; (try dsimp only at hSw); go_simp; (first | done | with_reducible rfl))
                        (try simp only [Act.put, List.setIfInBounds_toArray, List.set_cons_zero, List.set_cons_succ])
                        refine take_ (i := 1) (oi := { dst := some 98, op := Go.Op.load 38 (Go.Operand.tmp 8), type := 38, pos := "ref.go:95", after := #[{ on := 2, ground := Go.Ground.gcOnly Go.Departure.lateStores }], guard := none }) (v := ?v1_w) #[true, true, false, false, false, false] rfl rfl (by kernel_rfl) (fun _ _ _ h => h) (Or.inl ⟨by rfl, ?hy1_w⟩) (by assumption) rfl ?rest1_w
                        case hy1_w => (intro w hSw; (try dsimp only at hSw); go_simp; (first | done | with_reducible rfl))
                        (try simp only [Act.put, List.setIfInBounds_toArray, List.set_cons_zero, List.set_cons_succ])
                        refine one_ (i := 2) (oi := { dst := none, op := Go.Op.store 47 (Go.Operand.tmp 4) (Go.Operand.tmp 97), type := 0, pos := "ref.go:95", after := #[{ on := 0, ground := Go.Ground.data }, { on := 0, ground := Go.Ground.phase }, { on := 1, ground := Go.Ground.textOnly Go.Departure.lateStores }], guard := none }) #[true, true, true, false, false, false] rfl rfl (by kernel_rfl) (by decide) (fun K hK => ?_)
                        go_simp
                        refine hK.out _ _ ?_ (fun hHeld2 => ?_)
                        case refine_1 => (refine ⟨?_, ?_, ?_, ?_, ?_, ?_, ?_⟩ <;> go_simp)
                        clear hK K
                        (try simp only [Act.put, List.setIfInBounds_toArray, List.set_cons_zero, List.set_cons_succ])
                        refine one_ (i := 3) (oi := { dst := none, op := Go.Op.store 38 (Go.Operand.tmp 5) (Go.Operand.tmp 98), type := 0, pos := "ref.go:95", after := #[{ on := 1, ground := Go.Ground.data }, { on := 2, ground := Go.Ground.chain }, { on := 0, ground := Go.Ground.phase }, { on := 1, ground := Go.Ground.phase }, { on := 2, ground := Go.Ground.phase }], guard := none }) #[true, true, true, true, false, false] rfl rfl (by kernel_rfl) (by decide) (fun K hK => ?_)
                        go_simp
                        refine hK.out _ _ ?_ (fun hHeld3 => ?_)
                        case refine_1 => (refine ⟨?_, ?_, ?_, ?_, ?_, ?_, ?_⟩ <;> go_simp)
                        clear hK K
                        (try simp only [Act.put, List.setIfInBounds_toArray, List.set_cons_zero, List.set_cons_succ])
                        refine take_ (i := 4) (oi := { dst := some 6, op := Go.Op.assign (Go.Operand.const (Go.Value.int Go.IntKind.i64 2)), type := 3, pos := "ref.go:95", after := #[{ on := 3, ground := Go.Ground.chain }, { on := 0, ground := Go.Ground.phase }, { on := 1, ground := Go.Ground.phase }, { on := 2, ground := Go.Ground.phase }, { on := 3, ground := Go.Ground.phase }], guard := none }) (v := ?v4_w) #[true, true, true, true, true, false] rfl rfl (by kernel_rfl) (fun _ _ _ h => h) (Or.inl ⟨by rfl, ?hy4_w⟩) hHeld3 rfl ?rest4_w
                        case hy4_w => (intro w hSw; (try dsimp only at hSw); go_simp; (first | done | with_reducible rfl))
                        (try simp only [Act.put, List.setIfInBounds_toArray, List.set_cons_zero, List.set_cons_succ])
                        refine last_ (i := 5) (oi := { dst := some 7, op := Go.Op.assign (Go.Operand.const (Go.Value.bool true)), type := 4, pos := "ref.go:95", after := #[{ on := 4, ground := Go.Ground.chain }, { on := 0, ground := Go.Ground.phase }, { on := 1, ground := Go.Ground.phase }, { on := 2, ground := Go.Ground.phase }, { on := 3, ground := Go.Ground.phase }, { on := 4, ground := Go.Ground.phase }], guard := none }) #[true, true, true, true, true, true] rfl rfl (by kernel_rfl) (by decide) (fun K hK => ?_)
                        go_simp
                        refine hK.out _ _ ?_
                        clear hK K
                        refine done_ (by kernel_rfl) ?_
                        go_wp2_with fail
                        refine bodyPost_ret (v := .tuple #[.agg #[.int .i64 dep, .bool sug, .slice A1 (kd.length + rest.length) c1, .slice A9 (L1.length + 1) c9], .agg #[.string x.f0, .int .i64 x.f1, .slice A2 x.f2.length c2], .int .i64 2, .bool true]) (by simp [results, Try.results20, go_sem, y0, y1, y2, y3, z0, z1, z2, hyl5, hzl5]) rfl ?_
                        rw [HN2.out, if_neg (by rw [hm]; decide), if_neg (by simpa using hk0), if_pos (by simpa using hk2), ← HKD.out]
                        exact (ref_done (o := some (x, 2)) (k := 2) (b := true) (x0 := x.f0) (x1 := x.f1) (vv := .slice A2 x.f2.length c2) B12.out R12.out K12.out ⟨rfl, rfl, M12.out⟩).drew
                · go_wp2_with ((with_reducible refine gate_builtin (b := .append) (xs := #[.tmp 90, .tmp 91]) rfl ?_); at_builtin; refine Kd.N_append_rows k38 (w0 := wt) wt.heap.size rfl (.tmp 90) (.tmp 91) 31 38 (.agg #[.string ⟨#[]⟩, .int .i64 0, .slice none 0 0]) 48 rfl Try.underlying31 info38 rfl (by decide) (by decide) (.slice none 0 0) [] rest Aq rest.length (cr1 - 1) (fun k => okB ok0 W.heap.size k) (fun k => okB ok0 W.heap.size k ∧ k < wt.heap.size) rfl rfl (Kd.N_nil _ _ _ _ _) (Kd.F_bound (Kd.V_F hRest.out)) (fun k hk => ⟨hk.1, by simp [Value.ownBlock]⟩) (fun k hk => .inr (by omega)) (Below.refl _ _) (Nat.le_refl _) ?hln ?happ)
                  case hln => first | omega | (rw [List.length_nil]; omega)
                  case happ =>
                    intro v1 w1 hN1 _ hg1 hat1
                    try rw [List.nil_append] at hN1
                    obtain ⟨A1, c1, rfl⟩ := Kd.N_slice hN1
                    have x1 := (hg1.block _ (blk_lt XX.out) (by simp [Value.ownBlock])).trans XX.out
                    have y1 := (hg1.block _ (blk_lt YY.out) (by simp [Value.ownBlock])).trans YY.out
                    have z1 := (hg1.block _ (blk_lt ZZ.out) (by simp [Value.ownBlock])).trans ZZ.out
                    have t1 := (hg1.block _ (blk_lt TT.out) (by simp [Value.ownBlock])).trans TT.out
                    have f1 := (hg1.block _ (blk_lt FF.out) (by simp [Value.ownBlock])).trans FF.out
                    have hb11 : Below W.heap.size W w1 := BB.out.trans ((Below.refl W.heap.size wt).grown hg1 (by omega) (fun k hk => by simp [Value.ownBlock] at hk))
                    have hkb2 : ∀ k, okB ok0 W.heap.size k → k ≠ W.heap.size := fun k hk => by rcases hk with h | h <;> omega
                    have r12 := Kd.V_far (p := ⟨W.heap.size, 2, none⟩) (Kd.N_V (base' := 0) hN1) hkb2 (.slice A1 rest.length c1)
                    have k12 := Kd.V_far (p := ⟨W.heap.size, 2, none⟩) (Kd.V_grown hCame.out hg1 (fun k hk => by simp [Value.ownBlock])) hkb2 (.slice A1 rest.length c1)
                    have m12 := Kd.FK_step (Kd.FK_grown hX10.out hg1 (fun k hk => by simp [Value.ownBlock])) (W1 := w1.setCell ⟨W.heap.size, 2, none⟩ (.slice A1 rest.length c1)) (fun k hk _ => Below.heap_setCell w1 ⟨W.heap.size, 2, none⟩ (.slice A1 rest.length c1) k (hkb2 k hk))
                    have b12 := hb11.setCell (p := ⟨W.heap.size, 2, none⟩) (Nat.le_refl _) (.slice A1 rest.length c1)
                    have x12 : (w1.setCell ⟨W.heap.size, 2, none⟩ (.slice A1 rest.length c1)).heap[W.heap.size]? = some (.cells #[.int .i64 dep, .bool sug, .slice A1 rest.length c1, .slice A9 (L1.length + 1) c9] 47 (0, 0)) := by simpa using blk_set x1 2 (.slice A1 rest.length c1)
                    have y12 := (Below.heap_setCell w1 ⟨W.heap.size, 2, none⟩ (.slice A1 rest.length c1) (W.heap.size + 1) (by show W.heap.size + 1 ≠ W.heap.size; omega)).trans y1
                    have z12 := (Below.heap_setCell w1 ⟨W.heap.size, 2, none⟩ (.slice A1 rest.length c1) (W.heap.size + 2) (by show W.heap.size + 2 ≠ W.heap.size; omega)).trans z1
                    have t12 := (Below.heap_setCell w1 ⟨W.heap.size, 2, none⟩ (.slice A1 rest.length c1) wr.heap.size (by show wr.heap.size ≠ W.heap.size; omega)).trans t1
                    have f12 := (Below.heap_setCell w1 ⟨W.heap.size, 2, none⟩ (.slice A1 rest.length c1) w3.heap.size (by show w3.heap.size ≠ W.heap.size; omega)).trans f1
                    clear a0 a1 a2 a3 af q0 q1 q2 g0 g1 g2
                    have a2 := (blk_cell x1 2).trans rfl
                    have af : ∀ i, w1.frozen? ⟨W.heap.size, i, none⟩ = false := fun i => by simp [World.frozen?, x1]
                    have g1 := (blk_cell f1 1).trans rfl
                    have X12 := Lib.hid x12; clear x12 x1
                    have Y12 := Lib.hid y12; clear y12 y1
                    have Z12 := Lib.hid z12; clear z12 z1
                    have T12 := Lib.hid t12; clear t12 t1
                    have F12 := Lib.hid f12; clear f12 f1
                    have R12 := Lib.hid r12; clear r12
                    have K12 := Lib.hid k12; clear k12
                    have M12 := Lib.hid m12; clear m12
                    have B12 := Lib.hid b12; clear b12
                    clear hN1 hg1 hat1 hb11
                    go_wp2_with fail
                    generalize (w1.setCell ⟨W.heap.size, 2, none⟩ (.slice A1 rest.length c1)) = wv at *
                    clear a2 af g1
                    have a0 := (blk_cell X12.out 0).trans rfl
                    have a1 := (blk_cell X12.out 1).trans rfl
                    have a2 := (blk_cell X12.out 2).trans rfl
                    have a3 := (blk_cell X12.out 3).trans rfl
                    have q0 := (blk_cell T12.out 0).trans rfl
                    have q1 := (blk_cell T12.out 1).trans rfl
                    have q2 := (blk_cell T12.out 2).trans rfl
                    have y0 := (blk_cell Y12.out 0).trans rfl
                    have y1 := (blk_cell Y12.out 1).trans rfl
                    have y2 := (blk_cell Y12.out 2).trans rfl
                    have y3 := (blk_cell Y12.out 3).trans rfl
                    have yf : ∀ i, wv.frozen? ⟨W.heap.size + 1, i, none⟩ = false := fun i => by simp [World.frozen?, Y12.out]
                    have z0 := (blk_cell Z12.out 0).trans rfl
                    have z1 := (blk_cell Z12.out 1).trans rfl
                    have z2 := (blk_cell Z12.out 2).trans rfl
                    have zf : ∀ i, wv.frozen? ⟨W.heap.size + 2, i, none⟩ = false := fun i => by simp [World.frozen?, Z12.out]
                    have hyl5 := blk_lt Y12.out
                    have hzl5 := blk_lt Z12.out
                    refine start_ (S := (fun w' : World => w'.cell? ⟨W.heap.size, 0, none⟩ = some (.int .i64 dep) ∧ w'.cell? ⟨W.heap.size, 1, none⟩ = some (.bool sug) ∧ w'.cell? ⟨W.heap.size, 2, none⟩ = some (.slice A1 rest.length c1) ∧ w'.cell? ⟨W.heap.size, 3, none⟩ = some (.slice A9 (L1.length + 1) c9) ∧ w'.cell? ⟨wr.heap.size, 0, none⟩ = some (.string x.f0) ∧ w'.cell? ⟨wr.heap.size, 1, none⟩ = some (.int .i64 x.f1) ∧ w'.cell? ⟨wr.heap.size, 2, none⟩ = some (.slice A2 x.f2.length c2))) (ds := [5]) #[false, false, false, false, false, false] rfl rfl rfl ⟨a0, a1, a2, a3, q0, q1, q2⟩ (fun hHeld => ?_)
                    refine take_ (i := 0) (oi := { dst := some 97, op := Go.Op.load 47 (Go.Operand.tmp 2), type := 47, pos := "ref.go:95", after := #[], guard := none }) (v := ?v0_v) #[true, false, false, false, false, false] rfl rfl (by kernel_rfl) (fun _ _ _ h => h) (Or.inl ⟨by rfl, ?hy0_v⟩) (by assumption) rfl ?rest0_v
                    case hy0_v => (intro w hSw; (try dsimp only at hSw); go_simp; (first | done | with_reducible rfl))
                    (try simp only [Act.put, List.setIfInBounds_toArray, List.set_cons_zero, List.set_cons_succ])
                    refine take_ (i := 1) (oi := { dst := some 98, op := Go.Op.load 38 (Go.Operand.tmp 8), type := 38, pos := "ref.go:95", after := #[{ on := 2, ground := Go.Ground.gcOnly Go.Departure.lateStores }], guard := none }) (v := ?v1_v) #[true, true, false, false, false, false] rfl rfl (by kernel_rfl) (fun _ _ _ h => h) (Or.inl ⟨by rfl, ?hy1_v⟩) (by assumption) rfl ?rest1_v
                    case hy1_v => (intro w hSw; (try dsimp only at hSw); go_simp; (first | done | with_reducible rfl))
                    (try simp only [Act.put, List.setIfInBounds_toArray, List.set_cons_zero, List.set_cons_succ])
                    refine one_ (i := 2) (oi := { dst := none, op := Go.Op.store 47 (Go.Operand.tmp 4) (Go.Operand.tmp 97), type := 0, pos := "ref.go:95", after := #[{ on := 0, ground := Go.Ground.data }, { on := 0, ground := Go.Ground.phase }, { on := 1, ground := Go.Ground.textOnly Go.Departure.lateStores }], guard := none }) #[true, true, true, false, false, false] rfl rfl (by kernel_rfl) (by decide) (fun K hK => ?_)
                    go_simp
                    refine hK.out _ _ ?_ (fun hHeld2 => ?_)
                    case refine_1 => (refine ⟨?_, ?_, ?_, ?_, ?_, ?_, ?_⟩ <;> go_simp)
                    clear hK K
                    (try simp only [Act.put, List.setIfInBounds_toArray, List.set_cons_zero, List.set_cons_succ])
                    refine one_ (i := 3) (oi := { dst := none, op := Go.Op.store 38 (Go.Operand.tmp 5) (Go.Operand.tmp 98), type := 0, pos := "ref.go:95", after := #[{ on := 1, ground := Go.Ground.data }, { on := 2, ground := Go.Ground.chain }, { on := 0, ground := Go.Ground.phase }, { on := 1, ground := Go.Ground.phase }, { on := 2, ground := Go.Ground.phase }], guard := none }) #[true, true, true, true, false, false] rfl rfl (by kernel_rfl) (by decide) (fun K hK => ?_)
                    go_simp
                    refine hK.out _ _ ?_ (fun hHeld3 => ?_)
                    case refine_1 => (refine ⟨?_, ?_, ?_, ?_, ?_, ?_, ?_⟩ <;> go_simp)
                    clear hK K
                    (try simp only [Act.put, List.setIfInBounds_toArray, List.set_cons_zero, List.set_cons_succ])
                    refine take_ (i := 4) (oi := { dst := some 6, op := Go.Op.assign (Go.Operand.const (Go.Value.int Go.IntKind.i64 2)), type := 3, pos := "ref.go:95", after := #[{ on := 3, ground := Go.Ground.chain }, { on := 0, ground := Go.Ground.phase }, { on := 1, ground := Go.Ground.phase }, { on := 2, ground := Go.Ground.phase }, { on := 3, ground := Go.Ground.phase }], guard := none }) (v := ?v4_v) #[true, true, true, true, true, false] rfl rfl (by kernel_rfl) (fun _ _ _ h => h) (Or.inl ⟨by rfl, ?hy4_v⟩) hHeld3 rfl ?rest4_v
                    case hy4_v => (intro w hSw; (try dsimp only at hSw); go_simp; (first | done | with_reducible rfl))
                    (try simp only [Act.put, List.setIfInBounds_toArray, List.set_cons_zero, List.set_cons_succ])
                    refine last_ (i := 5) (oi := { dst := some 7, op := Go.Op.assign (Go.Operand.const (Go.Value.bool true)), type := 4, pos := "ref.go:95", after := #[{ on := 4, ground := Go.Ground.chain }, { on := 0, ground := Go.Ground.phase }, { on := 1, ground := Go.Ground.phase }, { on := 2, ground := Go.Ground.phase }, { on := 3, ground := Go.Ground.phase }, { on := 4, ground := Go.Ground.phase }], guard := none }) #[true, true, true, true, true, true] rfl rfl (by kernel_rfl) (by decide) (fun K hK => ?_)
                    go_simp
                    refine hK.out _ _ ?_
                    clear hK K
                    refine done_ (by kernel_rfl) ?_
                    go_wp2_with fail
                    refine bodyPost_ret (v := .tuple #[.agg #[.int .i64 dep, .bool sug, .slice A1 rest.length c1, .slice A9 (L1.length + 1) c9], .agg #[.string x.f0, .int .i64 x.f1, .slice A2 x.f2.length c2], .int .i64 2, .bool true]) (by simp [results, Try.results20, go_sem, y0, y1, y2, y3, z0, z1, z2, hyl5, hzl5]) rfl ?_
                    rw [HN2.out, if_neg (by rw [hm]; decide), if_neg (by simpa using hk0), if_pos (by simpa using hk2), show belowM dep sug x.f1 (askM l x.f0).2 = [] from if_neg (Int.not_lt.2 hlt), List.nil_append]
                    exact (ref_done (o := some (x, 2)) (k := 2) (b := true) (x0 := x.f0) (x1 := x.f1) (vv := .slice A2 x.f2.length c2) B12.out R12.out K12.out ⟨rfl, rfl, M12.out⟩).drew
              | false =>
                go_wp2_with ((with_reducible refine gate_builtin (b := .append) (xs := #[.tmp 90, .tmp 91]) rfl ?_); at_builtin; refine Kd.N_append_rows k38 (w0 := wt) wt.heap.size rfl (.tmp 90) (.tmp 91) 31 38 (.agg #[.string ⟨#[]⟩, .int .i64 0, .slice none 0 0]) 48 rfl Try.underlying31 info38 rfl (by decide) (by decide) (.slice none 0 0) [] rest Aq rest.length (cr1 - 1) (fun k => okB ok0 W.heap.size k) (fun k => okB ok0 W.heap.size k ∧ k < wt.heap.size) rfl rfl (Kd.N_nil _ _ _ _ _) (Kd.F_bound (Kd.V_F hRest.out)) (fun k hk => ⟨hk.1, by simp [Value.ownBlock]⟩) (fun k hk => .inr (by omega)) (Below.refl _ _) (Nat.le_refl _) ?hln ?happ)
                case hln => first | omega | (rw [List.length_nil]; omega)
                case happ =>
                  intro v1 w1 hN1 _ hg1 hat1
                  try rw [List.nil_append] at hN1
                  obtain ⟨A1, c1, rfl⟩ := Kd.N_slice hN1
                  have x1 := (hg1.block _ (blk_lt XX.out) (by simp [Value.ownBlock])).trans XX.out
                  have y1 := (hg1.block _ (blk_lt YY.out) (by simp [Value.ownBlock])).trans YY.out
                  have z1 := (hg1.block _ (blk_lt ZZ.out) (by simp [Value.ownBlock])).trans ZZ.out
                  have t1 := (hg1.block _ (blk_lt TT.out) (by simp [Value.ownBlock])).trans TT.out
                  have f1 := (hg1.block _ (blk_lt FF.out) (by simp [Value.ownBlock])).trans FF.out
                  clear a0 a1 a2 a3 af q0 q1 q2 g0 g1 g2
                  have a2 := (blk_cell x1 2).trans rfl
                  have af : ∀ i, w1.frozen? ⟨W.heap.size, i, none⟩ = false := fun i => by simp [World.frozen?, x1]
                  have g1 := (blk_cell f1 1).trans rfl
                  have X1 := Lib.hid x1; clear x1
                  have Y1 := Lib.hid y1; clear y1
                  have Z1 := Lib.hid z1; clear z1
                  have T1 := Lib.hid t1; clear t1
                  have F1 := Lib.hid f1; clear f1
                  have HN1 := Lib.hid hN1; clear hN1
                  have HG1 := Lib.hid hg1; clear hg1
                  clear hat1
                  go_wp2_with fail
                  go_roundg rest.length
                  case rel =>
                    have hb11 : Below W.heap.size W w1 := BB.out.trans ((Below.refl W.heap.size wt).grown HG1.out (by omega) (fun k hk => by simp [Value.ownBlock] at hk))
                    have hs1 := blk_set X1.out 2 (.slice A1 rest.length c1)
                    have hkb2 : ∀ k, okB ok0 W.heap.size k → k ≠ W.heap.size := fun k hk => by rcases hk with h | h <;> omega
                    refine ⟨rest, x.f0 :: L1, A1, c1, A9, c9, rfl, ?_, ?_, hb11.setCell (p := ⟨W.heap.size, 2, none⟩) (Nat.le_refl _) _, Lib.hid ?_, Lib.hid (fun s hs => HS.out s (List.mem_cons_of_mem _ hs)), by simp only [List.length_cons]; omega, by simpa using hs1, ?_, ?_⟩
                    · exact Kd.V_far (p := ⟨W.heap.size, 2, none⟩) (Kd.N_V HN1.out) hkb2 _
                    · exact Kd.V_far (p := ⟨W.heap.size, 2, none⟩) (Kd.V_grown hCame.out HG1.out (fun k hk => by simp [Value.ownBlock])) hkb2 _
                    · rw [HN2.out, if_neg (by rw [hm]; decide), if_neg (by simpa using hk0), if_neg (by simpa using hk2)]
                    · exact (Below.heap_setCell _ ⟨W.heap.size, 2, none⟩ _ _ (by show W.heap.size + 1 ≠ W.heap.size; omega)).trans Y1.out
                    · exact (Below.heap_setCell _ ⟨W.heap.size, 2, none⟩ _ _ (by show W.heap.size + 2 ≠ W.heap.size; omega)).trans Z1.out
                  case measure => omega
end Go.Proofs.Yteamocejpankdaa
