/- The document's All: what it hands back. For every world. -/
import Derived.Test.YteamocejpankdaaB3
namespace Go.Proofs.Yteamocejpankdaa
open Go.Proofs.YteamocejpankdaaW.PrintLast Go.RowKit Go.Shelf Go.Proofs.YteamocejpankdaaW.PrintWords Go.Proofs.Yteamocejpankdaa.PWalkCopies
set_option linter.unusedVariables false
set_option linter.unusedSimpArgs false

theorem nextM_kind (F : ByteArray → Int × List S44) (dep : Int) (sug : Bool) : ∀ (row : List S38) (L : List ByteArray) s k, (nextM F dep sug row L).2.2 = some (s, k) → k = 0 ∨ k = 2 := by
  intro row
  induction row with
  | nil => intro L s k h; simp [nextM] at h
  | cons x rest ih =>
    intro L s k h
    unfold nextM at h
    split at h
    · exact ih _ _ _ h
    · split at h
      · simp at h; exact .inl h.2.symm
      · split at h
        · simp at h; exact .inr h.2.symm
        · exact ih _ _ _ h
/-- The blocks that a call may have known, and those that it made, but one. -/
def okC (ok0 : Nat → Prop) (N bw : Nat) (v : Value) : Nat → Prop := fun k => (ok0 k ∧ k < N ∨ N ≤ k ∧ k ≠ bw) ∧ some k ≠ v.ownBlock
def okD (ok0 : Nat → Prop) (N bw : Nat) : Nat → Prop := fun k => ok0 k ∧ k < N ∨ N ≤ k ∧ k ≠ bw
def RAPost (W : World) (ok0 : Nat → Prop) (l : List S38) (e : Ending) (W' : World) : Prop := ∃ v, e = .returned v ∧ Kd.N k38 38 W' W.heap.size (fun k => ok0 k ∧ k < W.heap.size ∨ W.heap.size ≤ k) v l ∧ Below W.heap.size W W'
def RAInv (W : World) (ok0 : Nat → Prop) (F : ByteArray → Int × List S44) (dep : Int) (sug : Bool) (lo : List S38) (bw : Nat) (kq : Nat) (t11 : Value) (wr : World) : Prop :=
  ∃ acc row L Ar cr Ac cc rest, kq = List.length rest ∧ Kd.N k38 38 wr W.heap.size (okD ok0 W.heap.size bw) t11 acc ∧ Kd.V k38 38 wr 0 (okC ok0 W.heap.size bw t11) (.slice Ar (List.length row) cr) row ∧ Kd.V Kd.string 9 wr 0 (okC ok0 W.heap.size bw t11) (.slice Ac (List.length L) cc) L.reverse ∧
    Below W.heap.size W wr ∧ wr.heap[bw]? = some (.cells #[.int .i64 dep, .bool sug, .slice Ar (List.length row) cr, .slice Ac (List.length L) cc] 47 (0, 0)) ∧ Hid (Tells F dep sug row L rest) ∧ Hid (lo = acc ++ rest)
def allW (w : World) (b : Nat) (v0 v1 v2 v3 u0 u1 u2 : Value) : World :=
  (((((w.setCell ⟨b, 0, none⟩ v0).setCell ⟨b, 1, none⟩ v1).setCell ⟨b, 2, none⟩ v2).setCell ⟨b, 3, none⟩ v3).alloc (.cells #[v0, v1, v2, v3] 47)).alloc (.cells #[u0, u1, u2] 38)
theorem allW_size (w : World) (b : Nat) (v0 v1 v2 v3 u0 u1 u2 : Value) : (allW w b v0 v1 v2 v3 u0 u1 u2).heap.size = w.heap.size + 2 := by
  unfold allW
  simp
theorem allW_kept (w : World) (b : Nat) (v0 v1 v2 v3 u0 u1 u2 : Value) : Kept w (allW w b v0 v1 v2 v3 u0 u1 u2) (fun k => k = b) := by
  have e : (fun k : Nat => k = b) b := rfl
  unfold allW
  exact ((((((Kept.refl w (fun k => k = b)).setCell (p := ⟨b, 0, none⟩) (.inl e) _).setCell (p := ⟨b, 1, none⟩) (.inl e) _).setCell (p := ⟨b, 2, none⟩) (.inl e) _).setCell (p := ⟨b, 3, none⟩) (.inl e) _).alloc _).alloc _
theorem allW_below {W w : World} {N b : Nat} (h : Below N W w) (hb : N ≤ b) (hN : N ≤ w.heap.size) (v0 v1 v2 v3 u0 u1 u2 : Value) : Below N W (allW w b v0 v1 v2 v3 u0 u1 u2) := by
  unfold allW
  exact (((((h.setCell (p := ⟨b, 0, none⟩) hb _).setCell (p := ⟨b, 1, none⟩) hb _).setCell (p := ⟨b, 2, none⟩) hb _).setCell (p := ⟨b, 3, none⟩) hb _).alloc (by simpa using hN) _).alloc (by simp; omega) _
theorem allW_at {w : World} {b : Nat} {d0 d1 d2 d3 : Value} (h : w.heap[b]? = some (.cells #[d0, d1, d2, d3] 47 (0, 0))) (v0 v1 v2 v3 u0 u1 u2 : Value) : (allW w b v0 v1 v2 v3 u0 u1 u2).heap[b]? = some (.cells #[v0, v1, v2, v3] 47 (0, 0)) := by
  have h1 := blk_set h 0 v0
  have h2 := blk_set h1 1 v1
  have h3 := blk_set h2 2 v2
  have h4 := blk_set h3 3 v3
  have hl := blk_lt h4
  unfold allW
  refine (Below.heap_alloc _ _ _ (by rw [World.size_alloc]; omega)).trans ((Below.heap_alloc _ _ _ hl).trans ?_)
  simpa using h4
set_option maxRecDepth 100000 in
set_option maxHeartbeats 2000000 in
theorem refAll_calls (W : World) (root : ByteArray) (depth : Int) (sug : Bool) (hr : root.size ≤ 1000000) (Al : Option Addr) (cl : Nat) (l : List S41) (ok0 : Nat → Prop) (hl : Kd.V k41 41 W 0 ok0 (.slice Al l.length cl) l)
    (hll : l.length ≤ 1000000) (hF : FOk (askM l)) (out : List S38) (hT : newB root depth = true → Tells (askM l) depth sug [⟨root, 0, []⟩] [] out) (hlo : out.length ≤ 1000000) (lo : List S38) (hle : lo = if newB root depth = true then out else []) :
    Calls Try.prog 10 #[.string root, .int .i64 depth, .bool sug, .slice Al l.length cl] W (RAPost W ok0 lo) := by
  have HLE := Lib.hid hle; clear hle
  have HL := Lib.hid hl; clear hl
  have HF := Lib.hid hF; clear hF
  have HT := Lib.hid hT; clear hT
  go_enter Try.func10, Try.ntmps10
  cases hnb : newB root depth with
  | false =>
    obtain ⟨kn, c, r6, r7, hc0, hn⟩ := new4_no root depth sug (by omega) hnb
    have hle := HLE.out
    rw [if_neg (by simp [hnb])] at hle
    subst hle
    have hc1 : (c != 0) = true := by simpa using hc0
    go_wp2_with fail
    refine (enfiladeref20_New.calls kn root depth sug 0 false [] [] c r6 r7 _ hn).mono ?_
    clear hn
    rintro e w1 ⟨v2, v3, rfl, hS, hR, hb1⟩
    obtain ⟨A2, c2, rfl⟩ := Kd.S_slice hS
    obtain ⟨A3, c3, rfl⟩ := Kd.R_slice hR
    go_wp2_with fail
    go_ret
    exact ⟨_, rfl, Kd.N_nil _ _ _ _ _, ((hb1.alloc hb1.size _).alloc (by rw [World.size_alloc]; have := hb1.size; omega) _)⟩
  | true =>
    obtain ⟨kn, hn⟩ := new4_yes root depth sug (by omega) hnb
    have hle := HLE.out
    rw [if_pos (by simp [hnb])] at hle
    subst hle
    have HT1 := Lib.hid (HT.out hnb)
    have HNB := Lib.hid hnb; clear hnb
    go_wp2_with fail
    refine (enfiladeref20_New.calls kn root depth sug depth sug [⟨root, 0, []⟩] [] 0 (-1) ⟨#[]⟩ _ hn).mono ?_
    clear hn
    rintro e w1 ⟨v2, v3, rfl, hS, hR, hb1⟩
    obtain ⟨A2, c2, rfl⟩ := Kd.S_slice hS
    obtain ⟨A3, c3, rfl⟩ := Kd.R_slice hR
    simp only [List.length_singleton, List.length_nil] at *
    have HS := Lib.hid hS; clear hS
    have HR := Lib.hid hR; clear hR
    have HB1 := Lib.hid hb1; clear hb1
    go_wp2_with fail
    go_loopg [11] lo.length (fun kq t11 wr => RAInv W ok0 (askM l) depth sug lo w1.heap.size kq t11 wr)
    case atStart =>
      have hb2 := below_alloc (below_alloc HB1.out (.cells #[.int .i64 depth, .bool sug, .slice A2 1 c2, .slice A3 0 c3] 47)) (.cells #[.int .i64 0, .int .i64 (-1), .string ⟨#[]⟩] 49)
      have hsz := HB1.out.size
      have ok1 : ∀ k, W.heap.size ≤ k ∧ k < w1.heap.size → okC ok0 W.heap.size w1.heap.size (.slice none 0 0) k := fun k hk => ⟨.inr ⟨hk.1, by omega⟩, by simp [Value.ownBlock]⟩
      have hS1 : Kd.V k38 38 w1 0 (okC ok0 W.heap.size w1.heap.size (.slice none 0 0)) (.slice A2 1 c2) [⟨root, 0, []⟩] := Kd.N_V (Kd.N_mono (Kd.S_N (Kd.S_bound HS.out)) (fun k hk => ok1 k ⟨hk.2.1, hk.2.2.1⟩))
      have hR1 : Kd.V Kd.string 9 w1 0 (okC ok0 W.heap.size w1.heap.size (.slice none 0 0)) (.slice A3 0 c3) ([] : List ByteArray).reverse := Kd.R_V (Kd.R_mono (Kd.R_bound HR.out) (fun k hk => ok1 k ⟨hk.2.1, hk.2.2.1⟩))
      exact ⟨[], [⟨root, 0, []⟩], [], A2, c2, A3, c3, lo, rfl, Kd.N_nil _ _ _ _ _, Kd.V_alloc (Kd.V_alloc hS1 _) _, Kd.V_alloc (Kd.V_alloc hR1 _) _, hb2, (Below.heap_alloc _ _ _ (by simp)).trans (heap_alloc_new _ _), HT1, Lib.hid rfl⟩
    case round =>
      obtain ⟨acc, row, L, Ar, cr, Ac, cc, rest, rfl, hN, hRow, hCame, hBe, hbw, HT2, HO⟩ := hrel
      have a0 := (blk_cell hbw 0).trans rfl
      have a1 := (blk_cell hbw 1).trans rfl
      have a2 := (blk_cell hbw 2).trans rfl
      have a3 := (blk_cell hbw 3).trans rfl
      have hbl := blk_lt hbw
      have hWs := hBe.size
      have HBW := Lib.hid hbw; clear hbw
      have HN := Lib.hid hN; clear hN
      have HRow := Lib.hid hRow; clear hRow
      have HCame := Lib.hid hCame; clear hCame
      have HBe := Lib.hid hBe; clear hBe
      have hok := HT2.out.ok
      have HOK := Lib.hid hok; clear hok
      have hlw : Kd.V k41 41 wr 0 (okC ok0 W.heap.size w1.heap.size u11) (.slice Al l.length cl) l := Kd.V_mono (Kd.V_below (Kd.V_bound HL.out) HBe.out) (fun k hk => ⟨.inl hk, fun e => by have := Kd.N_base HN.out k e.symm; omega⟩)
      have HLW := Lib.hid hlw; clear hlw
      go_wp2_with fail
      refine (refNext_calls wr depth sug Ar Ac Al cr cc cl row L l (okC ok0 W.heap.size w1.heap.size u11) HRow.out HCame.out HLW.out hll HF.out HOK.out.1 HOK.out.2).mono ?_
      rintro e w2 hRN
      obtain ⟨vr, vc, x0, x1, vv, k, b, rfl, hr2, hc2, hb2, hq2⟩ := hRN
      obtain ⟨Ar2, cr2, rfl⟩ := Kd.V_slice hr2
      obtain ⟨Ac2, cc2, rfl⟩ := Kd.V_slice hc2
      rw [List.length_reverse] at hc2 ⊢
      have hw2 := hb2.size
      have HR2 := Lib.hid hr2; clear hr2
      have HC2 := Lib.hid hc2; clear hc2
      have HB2 := Lib.hid hb2; clear hb2
      have hkd := nextM_kind (askM l) depth sug row L
      have HKD := Lib.hid hkd; clear hkd
      have hstop : (∃ A n c, vv = .slice A n c) ∧ ((b = false ∨ b = true ∧ k = 0) ∧ rest = [] ∨ ∃ s, b = true ∧ k = 2 ∧ Kd.FK k38 w2 (okA (okC ok0 W.heap.size w1.heap.size u11) wr.heap.size) s [.string x0, .int .i64 x1, vv] ∧ ∃ rest', rest = s :: rest' ∧ Tells (askM l) depth sug (nextM (askM l) depth sug row L).1 (nextM (askM l) depth sug row L).2.1 rest') := by
        have hT := HT2.out
        have hk := HKD.out
        have hv : ∀ (ok : Nat → Prop) s, Kd.FK k38 w2 ok s [.string x0, .int .i64 x1, vv] → ∃ A n c, vv = .slice A n c := by
          intro ok s h
          obtain ⟨A, c, e, _⟩ := k38_openF h
          injection e with _ e; injection e with _ e; injection e with e _
          exact ⟨A, _, c, e⟩
        cases hT with
        | stop h1 h2 =>
          generalize nextM (askM l) depth sug row L = q at *
          obtain ⟨q1, q2, q3⟩ := q
          dsimp only at *
          cases q3 with
          | none => exact ⟨⟨_, _, _, hq2.2.2⟩, .inl ⟨.inl hq2.2.1, rfl⟩⟩
          | some sk =>
            obtain ⟨s, kd⟩ := sk
            obtain ⟨e1, e2, e3⟩ := hq2
            refine ⟨hv _ _ e3, .inl ⟨.inr ⟨e2, ?_⟩, rfl⟩⟩
            rcases hk s kd rfl with h | h
            · rw [e1, h]
            · exact absurd (by rw [h]) (h2 s)
        | tell h1 h2 h3 =>
          rw [h2] at hq2 hk ⊢
          obtain ⟨e1, e2, e3⟩ := hq2
          exact ⟨hv _ _ e3, .inr ⟨_, e2, e1, e3, _, rfl, h3⟩⟩
      obtain ⟨⟨Av, nv, cv, rfl⟩, hstop⟩ := hstop
      have HST := Lib.hid hstop; clear hstop
      clear hq2
      rcases HST.out with ⟨hbk, hrest⟩ | ⟨s, rfl, rfl, hFK, rest', hrest, hT3⟩
      · have hlo := HO.out
        rw [hrest, List.append_nil] at hlo
        subst hlo
        clear hrest
        have hN2 := Kd.N_mono (Kd.N_alloc (Kd.N_alloc (Kd.N_below HN.out HB2.out) (.cells #[.int .i64 depth, .bool sug, .slice Ar2 (List.length (nextM (askM l) depth sug row L).1) cr2, .slice Ac2 (List.length (nextM (askM l) depth sug row L).2.1) cc2] 47)) (.cells #[.string x0, .int .i64 x1, .slice Av nv cv] 38)) (ok' := fun k => ok0 k ∧ k < W.heap.size ∨ W.heap.size ≤ k) (fun k hk => hk.elim .inl (fun h => .inr h.1))
        have hB2 := ((HBe.out.trans (HB2.out.mono hWs)).alloc (by omega) (.cells #[.int .i64 depth, .bool sug, .slice Ar2 (List.length (nextM (askM l) depth sug row L).1) cr2, .slice Ac2 (List.length (nextM (askM l) depth sug row L).2.1) cc2] 47)).alloc (by rw [World.size_alloc]; omega) (.cells #[.string x0, .int .i64 x1, .slice Av nv cv] 38)
        have HN2 := Lib.hid hN2; clear hN2
        have HB22 := Lib.hid hB2; clear hB2
        rcases hbk with rfl | ⟨rfl, rfl⟩
        · go_wp2_with fail
          go_ret
          exact ⟨_, rfl, HN2.out, HB22.out⟩
        · go_wp2_with fail
          go_ret
          exact ⟨_, rfl, HN2.out, HB22.out⟩
      · have HFK := Lib.hid hFK; clear hFK
        have HRS := Lib.hid hrest; clear hrest
        have HT3 := Lib.hid hT3; clear hT3
        have hbl2 : w1.heap.size < w2.heap.size := by omega
        have hbw2 := (HB2.out.block _ hbl).trans HBW.out
        clear a0 a1 a2 a3
        have a0 := (blk_cell hbw2 0).trans rfl
        have a1 := (blk_cell hbw2 1).trans rfl
        have a2 := (blk_cell hbw2 2).trans rfl
        have a3 := (blk_cell hbw2 3).trans rfl
        have af : ∀ i, w2.frozen? ⟨w1.heap.size, i, none⟩ = false := fun i => by simp [World.frozen?, hbw2]
        have HBW2 := Lib.hid hbw2; clear hbw2
        have hW1 := HB1.out.size
        have hNb : some w1.heap.size ≠ u11.ownBlock := fun e => by
          have := HN.out.1 _ e.symm
          rcases this with h | h
          · omega
          · exact h.2 rfl
        have hlen : acc.length + 1 ≤ 1000000 := by
          have h1 := HO.out
          have h2 := HRS.out
          rw [h1, h2, List.length_append, List.length_cons] at hlo
          omega
        have okq : ∀ k, okA (okC ok0 W.heap.size w1.heap.size u11) wr.heap.size k ∧ k < w2.heap.size → okC ok0 W.heap.size w1.heap.size u11 k := by
          intro k hk
          rcases hk.1 with h | h
          · exact h.1
          · exact ⟨.inr ⟨by omega, by omega⟩, fun e => by have := Kd.N_lt HN.out k e.symm; omega⟩
        have okb : ∀ k, okC ok0 W.heap.size w1.heap.size u11 k → ¬ k = w1.heap.size := by
          intro k hk
          rcases hk.1 with h | h
          · omega
          · exact h.2
        have wk := allW_kept w2 w1.heap.size (.int .i64 depth) (.bool sug) (.slice Ar2 (nextM (askM l) depth sug row L).1.length cr2) (.slice Ac2 (nextM (askM l) depth sug row L).2.1.length cc2) (.string x0) (.int .i64 x1) (.slice Av nv cv)
        have wb := allW_below (HBe.out.trans (HB2.out.mono hWs)) (N := W.heap.size) (b := w1.heap.size) (by omega) (by omega) (.int .i64 depth) (.bool sug) (.slice Ar2 (nextM (askM l) depth sug row L).1.length cr2) (.slice Ac2 (nextM (askM l) depth sug row L).2.1.length cc2) (.string x0) (.int .i64 x1) (.slice Av nv cv)
        have wa := allW_at HBW2.out (.int .i64 depth) (.bool sug) (.slice Ar2 (nextM (askM l) depth sug row L).1.length cr2) (.slice Ac2 (nextM (askM l) depth sug row L).2.1.length cc2) (.string x0) (.int .i64 x1) (.slice Av nv cv)
        have ws := allW_size w2 w1.heap.size (.int .i64 depth) (.bool sug) (.slice Ar2 (nextM (askM l) depth sug row L).1.length cr2) (.slice Ac2 (nextM (askM l) depth sug row L).2.1.length cc2) (.string x0) (.int .i64 x1) (.slice Av nv cv)
        have hF5 : Kd.FK k38 (allW w2 w1.heap.size (.int .i64 depth) (.bool sug) (.slice Ar2 (nextM (askM l) depth sug row L).1.length cr2) (.slice Ac2 (nextM (askM l) depth sug row L).2.1.length cc2) (.string x0) (.int .i64 x1) (.slice Av nv cv)) (okC ok0 W.heap.size w1.heap.size u11) s [.string x0, .int .i64 x1, .slice Av nv cv] :=
          Kd.FK_step (Kd.FK_mono (Kd.FK_bound HFK.out) okq) (fun k hk hlt => wk.2 k hlt (okb k hk))
        have hN5 : Kd.N k38 38 (allW w2 w1.heap.size (.int .i64 depth) (.bool sug) (.slice Ar2 (nextM (askM l) depth sug row L).1.length cr2) (.slice Ac2 (nextM (askM l) depth sug row L).2.1.length cc2) (.string x0) (.int .i64 x1) (.slice Av nv cv)) W.heap.size (okD ok0 W.heap.size w1.heap.size) u11 acc :=
          Kd.N_kept (Kd.N_below HN.out HB2.out) wk (fun k hk => hk.elim (fun h => by omega) (fun h => h.2))
        have hR5 := Kd.V_kept (Kd.V_mono (Kd.V_bound HR2.out) okq) wk okb
        have hC5 := Kd.V_kept (Kd.V_mono (Kd.V_bound HC2.out) okq) wk okb
        have WB := Lib.hid wb; clear wb
        have WA := Lib.hid wa; clear wa
        have WS := Lib.hid ws; clear ws
        have HF5 := Lib.hid hF5; clear hF5
        have HN5 := Lib.hid hN5; clear hN5
        have HR5 := Lib.hid hR5; clear hR5
        have HC5 := Lib.hid hC5; clear hC5
        clear wk okq
        go_wp2_with ((with_reducible refine gate_builtin (b := .append) (xs := #[.tmp 42, .tmp 44]) rfl ?_); at_builtin; refine Kd.N_append k38 (w0 := W) (W := allW w2 w1.heap.size (.int .i64 depth) (.bool sug) (.slice Ar2 (nextM (askM l) depth sug row L).1.length cr2) (.slice Ac2 (nextM (askM l) depth sug row L).2.1.length cc2) (.string x0) (.int .i64 x1) (.slice Av nv cv)) W.heap.size rfl (.tmp 42) (.tmp 44) 31 38 (.agg #[.string ⟨#[]⟩, .int .i64 0, .slice none 0 0]) 48 rfl Try.underlying31 info38 rfl (by decide) (by decide) u11 acc s [.string x0, .int .i64 x1, .slice Av nv cv] (okD ok0 W.heap.size w1.heap.size) (okC ok0 W.heap.size w1.heap.size u11) rfl (by rw [WS.out]; rfl) HF5.out (fun _ h => h) ?hfr HN5.out WB.out ?hbs ?hln ?happ)
        case hfr => exact fun k hk => .inr ⟨by have := WS.out; omega, by have := WS.out; omega⟩
        case hbs => have := WS.out; omega
        case hln => omega
        case happ =>
          intro v6 w6 hN6 hB6 hg6 hat6
          have HR6 := Lib.hid (Kd.V_after (ok := okD ok0 W.heap.size w1.heap.size) (u := u11) HR5.out hg6 hat6)
          have HC6 := Lib.hid (Kd.V_after (ok := okD ok0 W.heap.size w1.heap.size) (u := u11) HC5.out hg6 hat6)
          have ha6 := Lib.hid ((hg6.block w1.heap.size (Nat.lt_of_lt_of_le hbl2 (Nat.le_of_lt (by rw [WS.out]; omega))) hNb).trans WA.out)
          have HN6 := Lib.hid hN6; clear hN6
          have HB6 := Lib.hid hB6; clear hB6
          clear hg6 hat6
          go_wp2_with fail
          go_roundg rest'.length
          case rel => exact ⟨acc ++ [s], (nextM (askM l) depth sug row L).1, (nextM (askM l) depth sug row L).2.1, Ar2, cr2, Ac2, cc2, rest', rfl, HN6.out, HR6.out, HC6.out, HB6.out, ha6.out, HT3, Lib.hid (by rw [HO.out, HRS.out, List.append_assoc]; rfl)⟩
          case measure => have h2 := HRS.out; rw [h2, List.length_cons]; omega
end Go.Proofs.Yteamocejpankdaa
