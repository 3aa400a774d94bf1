/- WalkCopies: the walk of the law's own code. For every world. -/
import Derived.Test.YteamocejpankdaaA15
import Derived.Test.YteamocejpankdaaA17
namespace Go.Proofs.Yteamocejpankdaa
open Go.Proofs.YteamocejpankdaaW.PrintLast Go.RowKit Go.Shelf Go.Proofs.YteamocejpankdaaW.PrintWords Go.Proofs.Yteamocejpankdaa.PWalkCopies
set_option linter.unusedVariables false
set_option linter.unusedSimpArgs false

theorem askFnS_of {w0 : World} {l : List S41} {gb : Nat} {A : Option Addr} {c b0 : Nat} {ok S : Nat → Prop} (hb : w0.heap[gb]? = some (.cells #[.slice A l.length c] 22 (0, 0))) (hS : ¬ S gb) (hV : Kd.V k41 41 w0 b0 ok (.slice A l.length c) l) (hok : ∀ k, ok k → ¬ S k) (hl : l.length ≤ 1000000) (hF : FOk (askM l)) :
    AskFnS 18 #[.pointer (some ⟨gb, 0, none⟩)] (askM l) w0 S where
  enters := enters_of Try.func18 (by kernel_rfl) rfl
  tells := fun room A2 c2 via W hk hr hC => by
    refine (ask1_calls W l gb A c ok room A2 via.length c2 ((hk.2 gb (blk_lt hb) hS).trans hb) (Kd.V_map hV (fun _ h => Kd.F_kept h hk hok)) hl hF).mono ?_
    rintro e W' ⟨A', c', rfl, h1, h2, h3⟩
    exact ⟨A', c', rfl, h1, h2, h3⟩
/-- Where Next tells none, it tells none again. -/
theorem nextM_stop (F : ByteArray → Int × List S44) (dep : Int) (sug : Bool) : ∀ (row : List S38) (L : List ByteArray), OkS row L → (∀ s, (nextM F dep sug row L).2.2 ≠ some (s, 2)) →
    OkS (nextM F dep sug row L).1 (nextM F dep sug row L).2.1 ∧ nextM F dep sug (nextM F dep sug row L).1 (nextM F dep sug row L).2.1 = nextM F dep sug row L := by
  intro row
  induction row with
  | nil => intro L ho _; exact ⟨by simpa [nextM] using ho, by simp [nextM]⟩
  | cons x rest ih =>
    intro L ho h
    have hn : nextM F dep sug (x :: rest) L = if memB L x.f0 = true then nextM F dep sug rest L else if (F x.f0).1 = 0 then (x :: rest, L, some (x, 0))
        else if (F x.f0).1 = 2 then (belowM dep sug x.f1 (F x.f0).2 ++ rest, x.f0 :: L, some (x, 2)) else nextM F dep sug rest (x.f0 :: L) := by
      conv => lhs; unfold nextM
    have ot : OkS rest L := ⟨fun y hy => ho.1 y (List.mem_cons_of_mem _ hy), by have := ho.2; simp only [List.length_cons] at this; omega⟩
    have oc : OkS rest (x.f0 :: L) := ⟨fun y hy => ho.1 y (List.mem_cons_of_mem _ hy), by have := ho.2; simp only [List.length_cons] at this ⊢; omega⟩
    by_cases h1 : memB L x.f0 = true
    · rw [if_pos h1] at hn
      rw [hn] at h ⊢
      exact ih L ot h
    · rw [if_neg h1] at hn
      by_cases h2 : (F x.f0).1 = 0
      · rw [if_pos h2] at hn
        rw [hn]
        exact ⟨ho, hn⟩
      · rw [if_neg h2] at hn
        by_cases h3 : (F x.f0).1 = 2
        · rw [if_pos h3] at hn
          rw [hn] at h
          exact absurd rfl (h x)
        · rw [if_neg h3] at hn
          rw [hn] at h ⊢
          exact ih _ oc h
/-- What Next hands back, whatever became of it; what is told from then on. -/
theorem next_form2 {B gw gm : Nat} {vs : Value} {dep : Int} {sug : Bool} {W W' : World} {F : ByteArray → Int × List S44} {row out : List S38} {L : List ByteArray} {e : Ending} (h : NextPost B gw gm vs dep sug W (nextM F dep sug row L) e W') (hT : Tells F dep sug row L out) :
    ∃ vs' row' L' x0 x1 A n c k b rest, e = .returned (.tuple #[.agg #[.string x0, .int .i64 x1, .slice A n c], .int .i64 k, .bool b]) ∧ IsWalk W' B gw gm vs' dep sug row' (List.length L') (cameF L') ∧ Kept W W' (TW gw gm vs) ∧
      (vs'.ownBlock = vs.ownBlock ∨ ∃ b, vs'.ownBlock = some b ∧ W.heap.size ≤ b) ∧ Tells F dep sug row' L' rest ∧
      ((∃ s, k = 2 ∧ b = true ∧ k38.M W' W.heap.size (fun k => W.heap.size ≤ k ∧ some k ≠ vs'.ownBlock) s [.string x0, .int .i64 x1, .slice A n c] ∧ out = s :: rest) ∨ ((b = false ∨ b = true ∧ k = 0) ∧ out = [] ∧ rest = [])) := by
  obtain ⟨vs', hi, hk, hv, hq⟩ := h
  cases hT with
  | stop h1 h2 =>
    obtain ⟨g1, g2⟩ := nextM_stop F dep sug row L h1 h2
    have hT' : Tells F dep sug (nextM F dep sug row L).1 (nextM F dep sug row L).2.1 [] := .stop g1 (by rw [g2]; exact h2)
    have hkd := nextM_kind F dep sug row L
    generalize nextM F dep sug row L = q at *
    obtain ⟨row2, L2, o⟩ := q
    dsimp only at *
    cases o with
    | none =>
      dsimp only at hq
      subst hq
      exact ⟨vs', row2, L2, _, _, _, _, _, _, _, [], rfl, hi, hk, hv, hT', .inr ⟨.inl rfl, rfl, rfl⟩⟩
    | some sk =>
      obtain ⟨s, k⟩ := sk
      obtain ⟨cs, rfl, hM⟩ := hq
      obtain ⟨v2, rfl, hR2⟩ := k38_openM hM
      obtain ⟨A, c, rfl⟩ := Kd.R_slice hR2
      refine ⟨vs', row2, L2, _, _, _, _, _, _, _, [], rfl, hi, hk, hv, hT', .inr ⟨.inr ⟨rfl, ?_⟩, rfl, rfl⟩⟩
      rcases hkd s k rfl with h | h
      · exact h
      · exact absurd (by rw [h]) (h2 s)
  | tell h1 h2 h3 =>
    rw [h2] at hi hq
    obtain ⟨cs, rfl, hM⟩ := hq
    obtain ⟨v2, rfl, hR2⟩ := k38_openM hM
    obtain ⟨A, c, rfl⟩ := Kd.R_slice hR2
    exact ⟨vs', _, _, _, _, _, _, _, _, _, _, rfl, hi, hk, hv, h3, .inl ⟨_, rfl, rfl, hM, rfl⟩⟩
def okP (gw gm : Nat) (vs : Value) : Nat → Prop := fun k => k ≠ gw ∧ k ≠ gm ∧ some k ≠ vs.ownBlock
/-- A walk that came so far: what it told ahead, and what it tells from now on. -/
def WCut (w5 : World) (gw gm : Nat) (dep : Int) (sug : Bool) (F : ByteArray → Int × List S44) (lo : List S38) (v : Value) (wx : World) : Prop := ∃ (acc : List S38) (vs : Value) (row : List S38) (L : List ByteArray) (rest : List S38), k38.R 36 wx w5.heap.size (okP gw gm vs) v acc ∧
  IsWalk wx w5.heap.size gw gm vs dep sug row L.length (cameF L) ∧ Kept w5 wx (fun _ => False) ∧ Hid (Tells F dep sug row L rest) ∧ Hid (lo = acc ++ rest)
set_option maxRecDepth 100000 in
set_option maxHeartbeats 4000000 in
theorem walkCopies_calls (W : World) (A : Option Addr) (c : Nat) (l : List S41) (ok : Nat → Prop) (hV : Kd.V k41 41 W 0 ok (.slice A l.length c) l) (root : ByteArray) (depth frm : Int) (sug : Bool) (hl : l.length ≤ 9223372036854775807) (hc : ∀ f ∈ l, f.f2.length ≤ 9223372036854775807) (hr : root.size ≤ 9223372036854775807) :
    Calls Try.prog 5 #[.slice A l.length c, .agg #[.string root, .int .i64 depth, .int .i64 frm, .bool sug]] W (TPost W) := by
  have HV := Lib.hid hV; clear hV
  cases hf : fewB l with
  | false =>
    have HF := Lib.hid hf; clear hf
    go_enter Try.func5, Try.ntmps5
    go_wp2_with fail
    refine (awake_calls _).mono ?_
    rintro e w1 ⟨rfl, hk1⟩
    have hk := (Kept.alloc (Kept.refl W (fun _ => False)) (.cells #[.string root, .int .i64 depth, .int .i64 frm, .bool sug] 24)).then_ hk1 (fun _ h => h.elim)
    have HK := Lib.hid hk; clear hk hk1
    go_wp2_with fail
    refine (few_calls A c l _ 0 ok (Kd.V_kept HV.out HK.out (fun _ _ h => h)) hl hc).mono ?_
    rintro e w2 ⟨rfl, hb2⟩
    rw [HF.out]
    have hk2 := HK.out.below hb2
    have HK2 := Lib.hid hk2; clear hk2 hb2
    go_wp2_with fail
    refine (awake_calls _).mono ?_
    rintro e w3 ⟨rfl, hk3⟩
    have hk3 := HK2.out.then_ hk3 (fun _ h => h.elim)
    have HK3 := Lib.hid hk3; clear hk3
    go_wp2_with fail
    go_ret
    exact ⟨rfl, HK3.out⟩
  | true =>
    have HF := Lib.hid hf; clear hf
    go_enter Try.func5, Try.ntmps5
    go_wp2_with fail
    have hbx := heap_alloc_new W (.cells #[.string root, .int .i64 depth, .int .i64 frm, .bool sug] 24)
    have HBX := Lib.hid hbx; clear hbx
    have hsz : (W.alloc (.cells #[.string root, .int .i64 depth, .int .i64 frm, .bool sug] 24)).heap.size = W.heap.size + 1 := World.size_alloc _ _
    have HSZ := Lib.hid hsz; clear hsz
    refine (awake_calls _).mono ?_
    rintro e w1 ⟨rfl, hk1⟩
    have hk := (Kept.alloc (Kept.refl W (fun _ => False)) (.cells #[.string root, .int .i64 depth, .int .i64 frm, .bool sug] 24)).then_ hk1 (fun _ h => h.elim)
    have hb1 := (hk1.2 W.heap.size (by have := HSZ.out; omega) (fun h => h)).trans HBX.out
    have HK := Lib.hid hk; clear hk hk1
    have HB1 := Lib.hid hb1; clear hb1
    go_wp2_with fail
    refine (few_calls A c l _ 0 ok (Kd.V_kept HV.out HK.out (fun _ _ h => h)) hl hc).mono ?_
    rintro e w2 ⟨rfl, hb2⟩
    rw [HF.out]
    have hx2 := (hb2.block _ (blk_lt HB1.out)).trans HB1.out
    have hk2 := HK.out.below hb2
    have HK2 := Lib.hid hk2; clear hk2 hb2
    have a0 := (blk_cell hx2 0).trans rfl
    have a1 := (blk_cell hx2 1).trans rfl
    have a2 := (blk_cell hx2 2).trans rfl
    have a3 := (blk_cell hx2 3).trans rfl
    have HX2 := Lib.hid hx2; clear hx2
    clear HBX HSZ HK HB1
    by_cases hr1 : 150 < root.size
    · go_wp2_with fail
      refine (awake_calls _).mono ?_
      rintro e w3 ⟨rfl, hk3⟩
      have hk3 := HK2.out.then_ hk3 (fun _ h => h.elim)
      have HK3 := Lib.hid hk3; clear hk3
      go_wp2_with fail
      go_ret
      exact ⟨rfl, HK3.out⟩
    · go_wp2_with fail
      obtain ⟨out, lo, hT, hol, hlo, hlol, hgood, _, _⟩ := few_out HF.out (show root.size ≤ 150 by omega) depth sug
      have HT := Lib.hid hT; clear hT
      have HLO := Lib.hid hlo; clear hlo
      have HGD := Lib.hid hgood; clear hgood
      refine (refAll_calls _ root depth sug (by omega) A c l ok (Kd.V_kept HV.out HK2.out (fun _ _ h => h)) (by have := few_len HF.out; omega) (fewOk_of HF.out) out HT.out (by omega) lo HLO.out).mono ?_
      rintro e w5 ⟨v5, rfl, hN5, hb5⟩
      obtain ⟨A5, c5, rfl⟩ := Kd.N_slice hN5
      have hx5 := (hb5.block _ (blk_lt HX2.out)).trans HX2.out
      have hk5 := HK2.out.below hb5
      have FN := Lib.hid (Kd.F_bound (Kd.N_F hN5))
      have HK5 := Lib.hid hk5; clear hk5 hb5 hN5
      clear a0 a1 a2 a3
      have a0 := (blk_cell hx5 0).trans rfl
      have a1 := (blk_cell hx5 1).trans rfl
      have a2 := (blk_cell hx5 2).trans rfl
      have a3 := (blk_cell hx5 3).trans rfl
      have HX5 := Lib.hid hx5; clear hx5
      have hV5 := Kd.V_kept (Kd.V_bound HV.out) HK5.out (fun _ _ h => h)
      have HV5 := Lib.hid (Kd.V_bound hV5); clear hV5
      go_wp2_with fail
      refine (new_calls w5 root depth sug (by unfold maxLen; omega)).mono ?_
      rintro e w6 ⟨hb6, hn6⟩
      have hk6 := (Kept.refl w5 (fun _ => False)).below hb6
      have HK6 := Lib.hid hk6; clear hk6 hb6
      cases hnb : newB root depth with
      | false =>
        rw [if_neg (by simp [hnb])] at hn6
        obtain ⟨p, rfl⟩ := hn6
        have hl := HLO.out
        rw [if_neg (by simp [hnb])] at hl
        subst hl
        go_wp2_with fail
        go_ret
        exact ⟨rfl, HK5.out.then_ HK6.out (fun _ h => h.elim)⟩
      | true =>
        rw [if_pos hnb] at hn6
        obtain ⟨gw, gm, vs, rfl, hi6⟩ := hn6
        have hl := HLO.out
        rw [if_pos (by simp [hnb])] at hl
        subst hl
        have HT1 := Lib.hid (HT.out hnb)
        have HNB := Lib.hid hnb; clear hnb HT
        have HI6 := Lib.hid hi6; clear hi6
        clear a0 a1 a2 a3
        have hx6 := (HK6.out.2 _ (blk_lt HX5.out) (fun h => h)).trans HX5.out
        have a2 := (blk_cell hx6 2).trans rfl
        have HX6 := Lib.hid hx6; clear hx6
        have hfr : ∃ nn : Nat, wrap64 ((IntKind.u64.wrap frm).tmod 12) = (nn : Int) ∧ nn ≤ 11 := by
          have h0 : 0 ≤ IntKind.u64.wrap frm := by simp [IntKind.wrap, IntKind.bits, IntKind.signed]; omega
          generalize IntKind.u64.wrap frm = q at *
          rw [Int.tmod_eq_emod_of_nonneg h0]
          exact ⟨(wrap64 (q % 12)).toNat, by unfold wrap64; omega, by unfold wrap64; omega⟩
        obtain ⟨nn, hnn, hnl⟩ := hfr
        go_upto_block 0 with fail
        rw [hnn]
        clear hnn
        go_cut [8] (fun t8 wx => WCut w5 gw gm depth sug (askM l) lo t8 wx)
        case first =>
          go_wp2_with fail
          have hbs6 := HI6.out.base
          go_loopg [8, 65] nn (fun kq t8 t65 wr => ∃ (i : Nat) (acc : List S38) (vs : Value) (row : List S38) (L : List ByteArray) (rest : List S38), i ≤ nn ∧ t65 = .int .i64 (i : Int) ∧ kq = nn - i ∧ k38.R 36 wr w5.heap.size (okP gw gm vs) t8 acc ∧
            IsWalk wr w5.heap.size gw gm vs depth sug row L.length (cameF L) ∧ Kept w5 wr (fun _ => False) ∧ Hid (Tells (askM l) depth sug row L rest) ∧ Hid (lo = acc ++ rest))
          case atStart => exact ⟨0, [], vs, [⟨root, 0, []⟩], [], lo, Nat.zero_le _, rfl, rfl, Kd.R_nil _ _ _ _ _, HI6.out, HK6.out, HT1, Lib.hid rfl⟩
          case round =>
            obtain ⟨i, acc, vs1, row, L, rest, hil, rfl, rfl, hR, hI, hK, HT2, HO⟩ := hrel
            have HR := Lib.hid hR; clear hR
            have HI := Lib.hid hI; clear hI
            have HK5R := Lib.hid hK; clear hK
            have HK0 := HK5R
            have HS0 : Hid (∀ k, TW gw gm vs1 k → False ∨ w5.heap.size ≤ k) := Lib.hid (fun k h => by
              have hb := HI.out.base
              rcases h with h | h | h
              · exact .inr (by omega)
              · exact .inr (by omega)
              · exact .inr (Kd.R_base HI.out.stack _ h.symm))
            by_cases hin : i < nn
            · have hgw := blk_lt HI.out.obj
              have hgm := HI.out.map.lt
              have hbase := HI.out.base
              have hvl := Lib.hid (Kd.R_lt HI.out.stack)
              have hvb := Lib.hid (Kd.R_base HI.out.stack)
              have htl := Lib.hid (Kd.R_lt HR.out)
              have hok := HT2.out.ok
              have HOK := Lib.hid hok; clear hok
              obtain ⟨Ac, cac, hva⟩ := Kd.R_slice HR.out
              subst hva
              have hW0 := HK0.out.1
              have hw5r := HK5R.out.1
              have hI8 := HI.out.below (below_alloc (Below.refl _ wr) (.cells #[.slice A l.length c] 22))
              have hAF : AskFnS 18 #[.pointer (some ⟨wr.heap.size, 0, none⟩)] (askM l) (wr.alloc (.cells #[.slice A l.length c] 22)) (TW gw gm vs1) :=
                askFnS_of (ok := fun k => (ok k ∧ k < W.heap.size) ∧ k < w5.heap.size) (b0 := 0) (heap_alloc_new wr _) (fun h => by
                  rcases h with h | h | h
                  · omega
                  · omega
                  · have := hvl.out _ h.symm; omega) (Kd.V_alloc (Kd.V_kept HV5.out HK5R.out (fun _ _ h => h)) _) (fun k hk h => by
                  have hk2 := hk.2
                  rcases h with h | h | h
                  · have := hbase.1; omega
                  · have := hbase.2.1; omega
                  · have := hvb.out _ h.symm; omega) (by have := few_len HF.out; omega) (fewOk_of HF.out)
              have HAF := Lib.hid hAF; clear hAF
              have HI8 := Lib.hid hI8; clear hI8
              go_wp2_with fail
              refine (mkask_calls _ A l.length c).mono ?_
              rintro e w8 ⟨rfl, rfl⟩
              go_wp2_with fail
              refine (next_callsS _ w5.heap.size gw gm vs1 depth sug row L HI8.out 18 #[.pointer (some ⟨wr.heap.size, 0, none⟩)] (askM l) HAF.out (fewOk_of HF.out) HOK.out.1 (by have := HOK.out.2; omega) HOK.out.2).mono ?_
              rintro e w9 hN
              obtain ⟨vs2, row2, L2, x0, x1, An, nn2, cn, k2, b2, rest2, rfl, hi2, hk2, hv2, hT2, hq⟩ := next_form2 hN HT2.out
              clear hN
              have hsz9 : wr.heap.size + 1 ≤ w9.heap.size := by have := hk2.1; rw [World.size_alloc] at this; exact this
              have hkw : Kept wr w9 (TW gw gm vs1) := ((Kept.refl wr (TW gw gm vs1)).alloc _).then_ hk2 (fun k h => .inl h)
              have hv9 : vs2.ownBlock = vs1.ownBlock ∨ ∃ b, vs2.ownBlock = some b ∧ wr.heap.size ≤ b := hv2.imp (fun h => h) (fun ⟨b, h, hb⟩ => ⟨b, h, by rw [World.size_alloc] at hb; omega⟩)
              have hR9 : k38.R 36 w9 w5.heap.size (okP gw gm vs2) (.slice Ac acc.length cac) acc := by
                refine Kd.R_mono (Kd.R_kept (Kd.R_bound HR.out) hkw (fun k hk h => h.elim (fun e => hk.1.1 e) (fun h => h.elim (fun e => hk.1.2.1 e) (fun e => hk.1.2.2 e)))) (fun k hk => ⟨hk.1.1, hk.1.2.1, fun e => ?_⟩)
                rcases hv9 with h | ⟨b, h, hb⟩
                · exact hk.1.2.2 (e.trans h)
                · rw [h] at e
                  injection e with e
                  have := hk.2.2.1
                  omega
              have hk50 : Kept w5 w9 (fun _ => False) := HK5R.out.then_ hkw (fun k h => .inr (by
                  rcases h with h | h | h
                  · have := hbase.1; omega
                  · have := hbase.2.1; omega
                  · exact hvb.out _ h.symm))
              have hk00 := HK0.out.then_ hkw (fun k h => HS0.out k h)
              have hS2 : ∀ k, TW gw gm vs2 k → (fun _ => False) k ∨ w5.heap.size ≤ k := by
                intro k h
                rcases h with h | h | h
                · exact HS0.out k (.inl h)
                · exact HS0.out k (.inr (.inl h))
                · rcases hv9 with h9 | ⟨b, h9, hb⟩
                  · exact HS0.out k (.inr (.inr (h.trans h9)))
                  · rw [h9] at h
                    injection h with h
                    exact .inr (by omega)
              have hq2 : ((∃ s, k2 = 2 ∧ b2 = true ∧ k38.M w9 wr.heap.size (fun k => wr.heap.size + 1 ≤ k ∧ some k ≠ vs2.ownBlock) s [.string x0, .int .i64 x1, .slice An nn2 cn] ∧ rest = s :: rest2) ∨ ((b2 = false ∨ b2 = true ∧ k2 = 0) ∧ rest = [] ∧ rest2 = [])) := by
                rcases hq with ⟨s, h1, h2, h3, h4⟩ | h
                · refine .inl ⟨s, h1, h2, k38.M_lower (by rw [World.size_alloc]; omega) (k38.M_mono (fun k hk => ⟨by have := hk.1; rw [World.size_alloc] at this; exact this, hk.2⟩) h3), h4⟩
                · exact .inr h
              have HQ := Lib.hid hq2; clear hq hq2
              have HI2 := Lib.hid hi2; clear hi2 hk2 hv2
              have HV9 := Lib.hid hv9; clear hv9
              have HR9 := Lib.hid hR9; clear hR9
              have HK50 := Lib.hid hk50; clear hk50 hkw
              have HK00 := Lib.hid hk00; clear hk00
              have HS2 := Lib.hid hS2; clear hS2
              have HT3 := Lib.hid hT2; clear hT2
              clear HI8 HAF
              rcases HQ.out with ⟨s, rfl, rfl, hM, hrest⟩ | ⟨hbk, hrest, hrest2⟩
              · have HM := Lib.hid hM; clear hM
                have HRS := Lib.hid hrest; clear hrest
                have hlen : acc.length + 1 ≤ 300 := by
                  have h1 := HO.out
                  have h2 := HRS.out
                  rw [h1, h2, List.length_append, List.length_cons] at hlol
                  omega
                go_wp2_with ((with_reducible refine gate_builtin (b := .append) (xs := #[.tmp 81, .tmp 83]) rfl ?_); at_builtin; refine Kd.R_append k38 (W := w9.alloc (.cells #[.string x0, .int .i64 x1, .slice An nn2 cn] 36)) (w0 := w9.alloc (.cells #[.string x0, .int .i64 x1, .slice An nn2 cn] 36)) w5.heap.size rfl (.tmp 81) (.tmp 83) 27 36 (.agg #[.string ⟨#[]⟩, .int .i64 0, .slice none 0 0]) 48 rfl Try.underlying27 info36 rfl (by decide) (by decide) (.slice Ac acc.length cac) acc s [.string x0, .int .i64 x1, .slice An nn2 cn] (okP gw gm vs2) (fun k => (wr.heap.size + 1 ≤ k ∧ some k ≠ vs2.ownBlock) ∧ k < w9.heap.size) rfl (by rw [World.size_alloc]; rfl) (k38.M_lower (by omega) (k38.M_mono (fun k hk => ⟨hk.1, hk.2.2.1⟩) (Kd.M_kept (k38.M_bound HM.out) (Kept.alloc (Kept.refl w9 (fun _ => False)) _) (fun _ _ h => h)))) ?hkpk ?hfrk (Kd.R_alloc HR9.out _) (Below.refl _ _) (by rw [World.size_alloc]; omega) ?hlnk ?happk)
                case hkpk => exact fun k hk => ⟨⟨by have := hk.1.1; omega, by have := hk.1.1; omega, hk.1.2⟩, fun e => by have := htl.out k e.symm; have := hk.1.1; omega⟩
                case hfrk =>
                  intro k hk
                  rw [World.size_alloc] at hk
                  refine ⟨by omega, by omega, fun e => ?_⟩
                  have := Kd.R_lt HI2.out.stack k e.symm
                  omega
                case hlnk => omega
                case happk =>
                  intro v4 w4 hR4 hb4 hg4 hat4
                  have n4 : ∀ k, (Value.slice Ac acc.length cac).ownBlock = some k → w5.heap.size ≤ k ∧ k < wr.heap.size ∧ okP gw gm vs1 k := fun k hk => ⟨Kd.R_base HR.out k hk, htl.out k hk, HR.out.1 k hk⟩
                  have i4 := (HI2.out.below (below_alloc (Below.refl _ w9) (.cells #[.string x0, .int .i64 x1, .slice An nn2 cn] 36))).beside (Kd.R_alloc HR9.out (.cells #[.string x0, .int .i64 x1, .slice An nn2 cn] 36)) (fun k hk => hk) hg4
                  have k4 : Kept w5 w4 (fun _ => False) := Kept.of_grown hg4 (HK50.out.alloc _) (fun k hk => .inr (n4 k hk).1)
                  have I4 := Lib.hid i4; clear i4
                  have K4 := Lib.hid k4; clear k4
                  have HR4 := Lib.hid hR4; clear hR4
                  have HG4 := Lib.hid hg4; clear hg4 hb4
                  have HAT4 := Lib.hid hat4; clear hat4
                  go_wp2_with fail
                  go_roundg (nn - (i + 1))
                  case rel =>
                    refine ⟨i + 1, acc ++ [s], vs2, row2, L2, rest2, by omega, by go_num, rfl, HR4.out, I4.out, K4.out, HT3, Lib.hid (by rw [HO.out, HRS.out, List.append_assoc]; rfl)⟩
                  case measure => omega
              · have HHB := Lib.hid hrest; clear hrest
                have HHB2 := Lib.hid hrest2; clear hrest2
                rcases hbk with rfl | ⟨rfl, rfl⟩
                · go_wp2_with fail
                  go_meet
                  exact ⟨acc, vs2, row2, L2, rest2, (Kd.R_alloc HR9.out _), HI2.out.below (below_alloc (Below.refl _ w9) _), HK50.out.alloc _, HT3, Lib.hid (by rw [HO.out, HHB.out, HHB2.out])⟩
                · go_wp2_with fail
                  go_meet
                  exact ⟨acc, vs2, row2, L2, rest2, (Kd.R_alloc HR9.out _), HI2.out.below (below_alloc (Below.refl _ w9) _), HK50.out.alloc _, HT3, Lib.hid (by rw [HO.out, HHB.out, HHB2.out])⟩
            · go_wp2_with fail
              go_meet
              exact ⟨acc, vs1, row, L, rest, HR.out, HI.out, HK5R.out, HT2, HO⟩
        case rest =>
          obtain ⟨acc, vs7, row, L, rest, hR7, hI7, hK57, HT7, HO7⟩ := hcut
          obtain ⟨wb, rfl⟩ : ∃ wb : World, wb = wc := ⟨_, rfl⟩
          obtain ⟨A7, c7, rfl⟩ := Kd.R_slice hR7
          have HR7 := Lib.hid hR7; clear hR7
          have HI7 := Lib.hid hI7; clear hI7
          have HK57 := Lib.hid hK57; clear hK57
          have hok7 := HT7.out.ok
          have hl7 := hok7.2
          clear hok7
          go_wp2_with fail
          refine (copy_calls wb w5.heap.size gw gm vs7 depth sug row L.length (cameF L) HI7.out (by omega)).mono ?_
          rintro e w8 ⟨gc, mc, vc, rfl, hIc, hb8, hgc, hmc, hvc⟩
          have HIC := Lib.hid hIc; clear hIc
          have HVC := Lib.hid hvc; clear hvc
          have HB8 := Lib.hid hb8; clear hb8
          have hw8 := HB8.out.size
          have hw57 := HK57.out.1
          have hg7 := blk_lt HI7.out.obj
          have hm7 := HI7.out.map.lt
          have hv7 := Lib.hid (Kd.R_lt HI7.out.stack)
          have hla : acc.length ≤ 300 := by
            have h1 := HO7.out
            rw [h1, List.length_append] at hlol
            omega
          go_wp2_with fail
          go_loopg [90] 2 (fun kq t90 wr => ∃ i : Nat, i ≤ 2 ∧ t90 = .int .i64 (i : Int) ∧ kq = 2 - i ∧ Kept w5 wr (fun _ => False) ∧ (i ≤ 1 → Kept wb wr (fun _ => False)) ∧ Kept wb wr (TW gw gm vs7) ∧ (i = 0 → IsWalk wr w5.heap.size gc mc vc depth sug row L.length (cameF L)))
          case atStart => exact ⟨0, by omega, rfl, rfl, HK57.out.below HB8.out, fun _ => Kept.of_below HB8.out _, Kept.of_below HB8.out _, fun _ => HIC.out⟩
          case round =>
            obtain ⟨i, hi2, rfl, rfl, hK5, hKc, hKt, hIc⟩ := hrel
            have HK5Z := Lib.hid hK5; clear hK5
            have HKC := Lib.hid hKc; clear hKc
            have HKT := Lib.hid hKt; clear hKt
            have HICZ := Lib.hid hIc; clear hIc
            have hwz := HKT.out.1
            by_cases hilt : i < 2
            · have hcur : ∃ (g1 m1 : Nat) (v1 : Value) (S1 : Nat → Prop), (∀ w : World, (Instr.index 62 (.agg #[.pointer (some ⟨gc, 0, none⟩), .pointer (some ⟨gw, 0, none⟩)]) (.int .i64 (i : Int))).run Try.prog w = .ok (.pointer (some ⟨g1, 0, none⟩)) w) ∧ IsWalk wr w5.heap.size g1 m1 v1 depth sug row L.length (cameF L) ∧
                  (∀ k, TW g1 m1 v1 k → S1 k ∨ wb.heap.size ≤ k) ∧ Kept wb wr S1 ∧ (∀ k, okP gw gm vs7 k ∧ k < wb.heap.size → okP g1 m1 v1 k) ∧ (i = 0 → ∀ k, ¬ S1 k) ∧ ∀ k, S1 k → TW gw gm vs7 k := by
                rcases (show i = 0 ∨ i = 1 by omega) with h0 | h1
                · subst h0
                  refine ⟨gc, mc, vc, fun _ => False, fun w => by rfl, HICZ.out rfl, fun k h => .inr ?_, HKC.out (by omega), fun k hk => ⟨by omega, by omega, fun e => ?_⟩, fun _ k h => h, fun k h => h.elim⟩
                  · rcases h with h | h | h
                    · omega
                    · omega
                    · exact HVC.out k h.symm
                  · have := HVC.out k e.symm
                    omega
                · subst h1
                  exact ⟨gw, gm, vs7, TW gw gm vs7, fun w => by rfl, HI7.out.kept (HKC.out (by omega)), fun k h => .inl h, HKT.out, fun k hk => hk.1, fun h => by omega, fun k h => h⟩
              obtain ⟨g1, m1, v1, S1, hidx, hI1, hS1, hK1, hacc, hS0, hST⟩ := hcur
              have HI1 := Lib.hid hI1; clear hI1
              have HS1 := Lib.hid hS1; clear hS1
              have HK1 := Lib.hid hK1; clear hK1
              have HACC := Lib.hid hacc; clear hacc
              have HSZ := Lib.hid hS0; clear hS0
              have HST := Lib.hid hST; clear hST
              have hg1 := blk_lt HI1.out.obj
              have hm1 := HI1.out.map.lt
              have hv1 := Lib.hid (Kd.R_lt HI1.out.stack)
              have hwc5 := HK5Z.out.1
              have hRz : k38.R 36 wr w5.heap.size (fun k => okP gw gm vs7 k ∧ k < wb.heap.size) (.slice A7 acc.length c7) acc := Kd.R_mono (Kd.R_kept (Kd.R_bound HR7.out) HKT.out (fun k hk h => h.elim (fun e => hk.1.1 e) (fun h => h.elim (fun e => hk.1.2.1 e) (fun e => hk.1.2.2 e)))) (fun k hk => ⟨hk.1, hk.2.2.1⟩)
              have hfre : ∀ k, wr.heap.size ≤ k → okP g1 m1 v1 k := fun k hk => ⟨by omega, by omega, fun e => by have := hv1.out k e.symm; omega⟩
              have HOh : Hid (k38.R 36 (wr.alloc (.cells #[] 36)) w5.heap.size (okP g1 m1 v1) (.slice (some ⟨wr.heap.size, 0, none⟩) 0 0) []) := Lib.hid (no_steps (heap_alloc_new wr _) (by omega) (hfre _ (Nat.le_refl _)))
              have HRWh := Lib.hid (R_rowsM (Kd.R_alloc hRz (.cells #[] 36)))
              have HFRE := Lib.hid hfre; clear hfre hRz
              go_wp2_with ((with_reducible refine gate_builtin (b := .append) (xs := #[.tmp 95, .tmp 96]) rfl ?_); at_builtin; refine Kd.R_append_rows k38 (W := wr.alloc (.cells #[] 36)) (w0 := wr.alloc (.cells #[] 36)) w5.heap.size rfl (.tmp 95) (.tmp 96) 27 36 (.agg #[.string ⟨#[]⟩, .int .i64 0, .slice none 0 0]) 48 rfl Try.underlying27 info36 rfl (by decide) (by decide) (.slice (some ⟨wr.heap.size, 0, none⟩) 0 0) [] acc A7 acc.length c7 (okP g1 m1 v1) (fun k => okP gw gm vs7 k ∧ k < wb.heap.size) rfl rfl HOh.out HRWh.out (fun x cs hm => hm) (fun k hk => ⟨HACC.out k hk, fun e => Nat.lt_irrefl _ (Nat.lt_of_lt_of_le (Nat.lt_of_lt_of_eq (Nat.lt_of_lt_of_le hk.2 hwz) (Option.some.inj e).symm) (Nat.le_refl _))⟩) (fun k hk => HFRE.out k (by rw [World.size_alloc] at hk; omega)) (Below.refl _ _) (by rw [World.size_alloc]; omega) ?hlnz ?happz)
              case hlnz => omega
              case happz =>
                intro v3 w10 hR3 hb3 hg3 hat3
                try rw [List.nil_append] at hR3
                have hkz : Kept wr w10 (fun _ => False) := Kept.of_grown hg3 ((Kept.refl wr _).alloc _) (fun k hk => .inr (by have : wr.heap.size = k := Option.some.inj hk; omega))
                have hI10 := (HI1.out.kept hkz)
                have HKO0 : Hid (∀ k, v3.ownBlock = some k → wb.heap.size ≤ k) := Lib.hid (fun k hk => by
                  rcases hat3 with h | ⟨b, h, hb⟩
                  · rw [h] at hk; have : wr.heap.size = k := Option.some.inj hk; omega
                  · rw [h] at hk; injection hk with hk; omega)
                have HI10 := Lib.hid hI10; clear hI10
                have HR10 := Lib.hid hR3; clear hR3
                have HK10 := Lib.hid hkz; clear hkz hb3 hg3 hat3
                clear hidx HOh HRWh
                go_upto_block 4 with fail
                go_cut [14] (fun t14 wx => Hid (k38.R 36 wx w5.heap.size (fun _ => True) t14 lo) ∧ Kept w5 wx (fun _ => False) ∧ Kept wb wx S1)
                case first =>
                  obtain ⟨wo, rfl⟩ : ∃ wo : World, wo = wr := ⟨_, rfl⟩
                  go_wp2_with fail
                  go_loopg [14] rest.length (fun kq t14 wr => ∃ (acc2 : List S38) (vs2 : Value) (row2 : List S38) (L2 : List ByteArray) (rest2 : List S38), kq = rest2.length ∧ k38.R 36 wr w5.heap.size (okP g1 m1 vs2) t14 acc2 ∧ IsWalk wr w5.heap.size g1 m1 vs2 depth sug row2 L2.length (cameF L2) ∧ Kept w5 wr (fun _ => False) ∧ Kept wb wr S1 ∧
                    (∀ k, TW g1 m1 vs2 k → S1 k ∨ wb.heap.size ≤ k) ∧ (∀ k, t14.ownBlock = some k → wb.heap.size ≤ k) ∧ Hid (Tells (askM l) depth sug row2 L2 rest2) ∧ Hid (lo = acc2 ++ rest2))
                  case atStart => exact ⟨acc, v1, row, L, rest, rfl, HR10.out, HI10.out, HK5Z.out.then_ HK10.out (fun _ h => h.elim), HK1.out.then_ HK10.out (fun _ h => h.elim), HS1.out, HKO0.out, HT7, HO7⟩
                  case round =>
                    clear HT7 HO7
                    obtain ⟨acc, vs1, row, L, rest, rfl, hR, hI, hK, hK0, hS0, hKO, HT2, HO⟩ := hrel
                    have HKO := Lib.hid hKO; clear hKO
                    have HR := Lib.hid hR; clear hR
                    have HI := Lib.hid hI; clear hI
                    have HK5R := Lib.hid hK; clear hK
                    have HK0 := Lib.hid hK0; clear hK0
                    have HS0 := Lib.hid hS0; clear hS0
                    have hgw := blk_lt HI.out.obj
                    have hgm := HI.out.map.lt
                    have hbase := HI.out.base
                    have hvl := Lib.hid (Kd.R_lt HI.out.stack)
                    have hvb := Lib.hid (Kd.R_base HI.out.stack)
                    have htl := Lib.hid (Kd.R_lt HR.out)
                    have hok := HT2.out.ok
                    have HOK := Lib.hid hok; clear hok
                    obtain ⟨Ac, cac, hva⟩ := Kd.R_slice HR.out
                    subst hva
                    have hW0 := HK0.out.1
                    have hw5r := HK5R.out.1
                    have hI8 := HI.out.below (below_alloc (Below.refl _ wr) (.cells #[.slice A l.length c] 22))
                    have hAF : AskFnS 18 #[.pointer (some ⟨wr.heap.size, 0, none⟩)] (askM l) (wr.alloc (.cells #[.slice A l.length c] 22)) (TW g1 m1 vs1) :=
                      askFnS_of (ok := fun k => (ok k ∧ k < W.heap.size) ∧ k < w5.heap.size) (b0 := 0) (heap_alloc_new wr _) (fun h => by
                        rcases h with h | h | h
                        · omega
                        · omega
                        · have := hvl.out _ h.symm; omega) (Kd.V_alloc (Kd.V_kept HV5.out HK5R.out (fun _ _ h => h)) _) (fun k hk h => by
                        have hk2 := hk.2
                        rcases h with h | h | h
                        · have := hbase.1; omega
                        · have := hbase.2.1; omega
                        · have := hvb.out _ h.symm; omega) (by have := few_len HF.out; omega) (fewOk_of HF.out)
                    have HAF := Lib.hid hAF; clear hAF
                    have HI8 := Lib.hid hI8; clear hI8
                    go_wp2_with fail
                    refine (mkask_calls _ A l.length c).mono ?_
                    rintro e w8 ⟨rfl, rfl⟩
                    go_wp2_with fail
                    refine (next_callsS _ w5.heap.size g1 m1 vs1 depth sug row L HI8.out 18 #[.pointer (some ⟨wr.heap.size, 0, none⟩)] (askM l) HAF.out (fewOk_of HF.out) HOK.out.1 (by have := HOK.out.2; omega) HOK.out.2).mono ?_
                    rintro e w9 hN
                    obtain ⟨vs2, row2, L2, x0, x1, An, nn2, cn, k2, b2, rest2, rfl, hi2, hk2, hv2, hT2, hq⟩ := next_form2 hN HT2.out
                    clear hN
                    have hsz9 : wr.heap.size + 1 ≤ w9.heap.size := by have := hk2.1; rw [World.size_alloc] at this; exact this
                    have hkw : Kept wr w9 (TW g1 m1 vs1) := ((Kept.refl wr (TW g1 m1 vs1)).alloc _).then_ hk2 (fun k h => .inl h)
                    have hv9 : vs2.ownBlock = vs1.ownBlock ∨ ∃ b, vs2.ownBlock = some b ∧ wr.heap.size ≤ b := hv2.imp (fun h => h) (fun ⟨b, h, hb⟩ => ⟨b, h, by rw [World.size_alloc] at hb; omega⟩)
                    have hR9 : k38.R 36 w9 w5.heap.size (okP g1 m1 vs2) (.slice Ac acc.length cac) acc := by
                      refine Kd.R_mono (Kd.R_kept (Kd.R_bound HR.out) hkw (fun k hk h => h.elim (fun e => hk.1.1 e) (fun h => h.elim (fun e => hk.1.2.1 e) (fun e => hk.1.2.2 e)))) (fun k hk => ⟨hk.1.1, hk.1.2.1, fun e => ?_⟩)
                      rcases hv9 with h | ⟨b, h, hb⟩
                      · exact hk.1.2.2 (e.trans h)
                      · rw [h] at e
                        injection e with e
                        have := hk.2.2.1
                        omega
                    have hk50 : Kept w5 w9 (fun _ => False) := HK5R.out.then_ hkw (fun k h => .inr (by
                        rcases h with h | h | h
                        · have := hbase.1; omega
                        · have := hbase.2.1; omega
                        · exact hvb.out _ h.symm))
                    have hk00 := HK0.out.then_ hkw (fun k h => HS0.out k h)
                    have hS2 : ∀ k, TW g1 m1 vs2 k → S1 k ∨ wb.heap.size ≤ k := by
                      intro k h
                      rcases h with h | h | h
                      · exact HS0.out k (.inl h)
                      · exact HS0.out k (.inr (.inl h))
                      · rcases hv9 with h9 | ⟨b, h9, hb⟩
                        · exact HS0.out k (.inr (.inr (h.trans h9)))
                        · rw [h9] at h
                          injection h with h
                          exact .inr (by omega)
                    have hq2 : ((∃ s, k2 = 2 ∧ b2 = true ∧ k38.M w9 wr.heap.size (fun k => wr.heap.size + 1 ≤ k ∧ some k ≠ vs2.ownBlock) s [.string x0, .int .i64 x1, .slice An nn2 cn] ∧ rest = s :: rest2) ∨ ((b2 = false ∨ b2 = true ∧ k2 = 0) ∧ rest = [] ∧ rest2 = [])) := by
                      rcases hq with ⟨s, h1, h2, h3, h4⟩ | h
                      · refine .inl ⟨s, h1, h2, k38.M_lower (by rw [World.size_alloc]; omega) (k38.M_mono (fun k hk => ⟨by have := hk.1; rw [World.size_alloc] at this; exact this, hk.2⟩) h3), h4⟩
                      · exact .inr h
                    have HQ := Lib.hid hq2; clear hq hq2
                    have HI2 := Lib.hid hi2; clear hi2 hk2 hv2
                    have HV9 := Lib.hid hv9; clear hv9
                    have HR9 := Lib.hid hR9; clear hR9
                    have HK50 := Lib.hid hk50; clear hk50 hkw
                    have HK00 := Lib.hid hk00; clear hk00
                    have HS2 := Lib.hid hS2; clear hS2
                    have HT3 := Lib.hid hT2; clear hT2
                    clear HI8 HAF
                    rcases HQ.out with ⟨s, rfl, rfl, hM, hrest⟩ | ⟨hbk, hrest, hrest2⟩
                    · have HM := Lib.hid hM; clear hM
                      have HRS := Lib.hid hrest; clear hrest
                      have hlen : acc.length + 1 ≤ 300 := by
                        have h1 := HO.out
                        have h2 := HRS.out
                        rw [h1, h2, List.length_append, List.length_cons] at hlol
                        omega
                      go_wp2_with ((with_reducible refine gate_builtin (b := .append) (xs := #[.tmp 112, .tmp 114]) rfl ?_); at_builtin; refine Kd.R_append k38 (W := w9.alloc (.cells #[.string x0, .int .i64 x1, .slice An nn2 cn] 36)) (w0 := w9.alloc (.cells #[.string x0, .int .i64 x1, .slice An nn2 cn] 36)) w5.heap.size rfl (.tmp 112) (.tmp 114) 27 36 (.agg #[.string ⟨#[]⟩, .int .i64 0, .slice none 0 0]) 48 rfl Try.underlying27 info36 rfl (by decide) (by decide) (.slice Ac acc.length cac) acc s [.string x0, .int .i64 x1, .slice An nn2 cn] (okP g1 m1 vs2) (fun k => (wr.heap.size + 1 ≤ k ∧ some k ≠ vs2.ownBlock) ∧ k < w9.heap.size) rfl (by rw [World.size_alloc]; rfl) (k38.M_lower (by omega) (k38.M_mono (fun k hk => ⟨hk.1, hk.2.2.1⟩) (Kd.M_kept (k38.M_bound HM.out) (Kept.alloc (Kept.refl w9 (fun _ => False)) _) (fun _ _ h => h)))) ?hkpm ?hfrm (Kd.R_alloc HR9.out _) (Below.refl _ _) (by rw [World.size_alloc]; omega) ?hlnm ?happm)
                      case hkpm => exact fun k hk => ⟨⟨by have := hk.1.1; omega, by have := hk.1.1; omega, hk.1.2⟩, fun e => by have := htl.out k e.symm; have := hk.1.1; omega⟩
                      case hfrm =>
                        intro k hk
                        rw [World.size_alloc] at hk
                        refine ⟨by omega, by omega, fun e => ?_⟩
                        have := Kd.R_lt HI2.out.stack k e.symm
                        omega
                      case hlnm => omega
                      case happm =>
                        intro v4 w4 hR4 hb4 hg4 hat4
                        have n4 : ∀ k, (Value.slice Ac acc.length cac).ownBlock = some k → w5.heap.size ≤ k ∧ k < wr.heap.size ∧ okP g1 m1 vs1 k := fun k hk => ⟨Kd.R_base HR.out k hk, htl.out k hk, HR.out.1 k hk⟩
                        have i4 := (HI2.out.below (below_alloc (Below.refl _ w9) (.cells #[.string x0, .int .i64 x1, .slice An nn2 cn] 36))).beside (Kd.R_alloc HR9.out (.cells #[.string x0, .int .i64 x1, .slice An nn2 cn] 36)) (fun k hk => hk) hg4
                        have k4 : Kept w5 w4 (fun _ => False) := Kept.of_grown hg4 (HK50.out.alloc _) (fun k hk => .inr (n4 k hk).1)
                        have I4 := Lib.hid i4; clear i4
                        have K4 := Lib.hid k4; clear k4
                        have HR4 := Lib.hid hR4; clear hR4
                        have HG4 := Lib.hid hg4; clear hg4 hb4
                        have HAT4 := Lib.hid hat4; clear hat4
                        go_wp2_with fail
                        go_roundg rest2.length
                        case rel => exact ⟨acc ++ [s], vs2, row2, L2, rest2, rfl, HR4.out, I4.out, K4.out, Kept.of_grown HG4.out (HK00.out.alloc _) (fun k hk => .inr (HKO.out k hk)), HS2.out, (fun k hk => by
                            rcases HAT4.out with h | ⟨b, h, hb⟩
                            · exact HKO.out k (h ▸ hk)
                            · rw [h] at hk; injection hk with hk; have := HK00.out.1; omega), HT3, Lib.hid (by rw [HO.out, HRS.out, List.append_assoc]; rfl)⟩
                        case measure => rw [HRS.out, List.length_cons]; omega
                    · have HHB := Lib.hid hrest; clear hrest
                      have HHB2 := Lib.hid hrest2; clear hrest2
                      rcases hbk with rfl | ⟨rfl, rfl⟩
                      · go_wp2_with fail
                        go_meet
                        have hlo2 : lo = acc := by rw [HO.out, HHB.out, List.append_nil]
                        exact ⟨Lib.hid (by rw [hlo2]; exact Kd.R_mono (Kd.R_alloc HR9.out _) (fun _ _ => trivial)), HK50.out.alloc _, HK00.out.alloc _⟩
                      · go_wp2_with fail
                        go_meet
                        have hlo2 : lo = acc := by rw [HO.out, HHB.out, List.append_nil]
                        exact ⟨Lib.hid (by rw [hlo2]; exact Kd.R_mono (Kd.R_alloc HR9.out _) (fun _ _ => trivial)), HK50.out.alloc _, HK00.out.alloc _⟩
                case rest =>
                  obtain ⟨HRA, hK5a, hKa⟩ := hcut
                  obtain ⟨A9, c9, rfl⟩ := Kd.R_slice HRA.out
                  have HK5A := Lib.hid hK5a; clear hK5a
                  have HKA := Lib.hid hKa; clear hKa
                  have FRA := Lib.hid (Kd.F_bound (Kd.R_F HRA.out))
                  obtain ⟨wa, rfl⟩ : ∃ wa : World, wa = wc := ⟨_, rfl⟩
                  go_wp2_with fail
                  obtain ⟨wo, rfl⟩ : ∃ wo : World, wo = wr := ⟨_, rfl⟩
                  go_loopg [123] lo.length (fun kq t123 wr => ∃ j : Nat, j ≤ lo.length ∧ t123 = .int .i64 (j : Int) ∧ kq = lo.length - j ∧ Kept wa wr (fun _ => False))
                  case atStart => exact ⟨0, Nat.zero_le _, rfl, rfl, Kept.refl _ _⟩
                  case round =>
                    obtain ⟨j, hjl, rfl, rfl, hKj⟩ := hrel
                    have HKJ := Lib.hid hKj; clear hKj
                    by_cases hj : j < lo.length
                    · obtain ⟨bR, oR, hAR, hcR⟩ := step_cells FRA.out (by omega)
                      obtain ⟨bN, oN, hAN, hcN⟩ := step_cells FN.out (by omega)
                      obtain ⟨A6, c6, e0, e1, e2, hF6, hc6⟩ := hcR j hj
                      obtain ⟨A8, c8, f0, f1, f2, hF8, hc8⟩ := hcN j hj
                      clear hcR hcN
                      subst hAR hAN
                      have hK5r := HK5A.out.then_ HKJ.out (fun _ h => h.elim)
                      have e0 := cell_keep e0 HKJ.out
                      have e1 := cell_keep e1 HKJ.out
                      have e2 := cell_keep e2 HKJ.out
                      have f0 := cell_keep f0 hK5r
                      have f1 := cell_keep f1 hK5r
                      have f2 := cell_keep f2 hK5r
                      have HC6 := Lib.hid (Kd.F_now (Kd.F_kept hF6 HKJ.out (fun _ _ h => h)))
                      have HC8 := Lib.hid (Kd.F_now (Kd.F_kept hF8 hK5r (fun _ _ h => h)))
                      clear hF6 hF8 hK5r
                      obtain ⟨hGi, hd10⟩ := HGD.out lo[j] (List.getElem_mem hj)
                      generalize hs : lo[j] = s at *
                      have HS := Lib.hid hs; clear hs
                      have HGI := Lib.hid hGi; clear hGi
                      go_wp2_with fail
                      refine start_ (S := (fun w' : World => Below wr.heap.size wr w')) (ds := [9]) #[false, false, false, false, false, false, false, false, false, false] rfl rfl rfl (below_drew (Below.refl _ _)) (fun hHeld => ?_)
                      refine take_ (i := 0) (oi := { dst := some 126, op := Go.Op.move (Go.Operand.tmp 14), type := 27, pos := "law.go:165", after := #[], guard := none }) (v := ?v0_q) #[true, false, false, false, false, false, false, false, false, false] rfl rfl (by kernel_rfl) (fun _ _ _ h => h) (Or.inl ⟨by rfl, ?hy0_q⟩) hHeld rfl ?rest0_q
                      case hy0_q => (intro w hSw; have e0' := pw_cell_below hSw e0; have e1' := pw_cell_below hSw e1; have e2' := pw_cell_below hSw e2; have f0' := pw_cell_below hSw f0; have f1' := pw_cell_below hSw f1; have f2' := pw_cell_below hSw f2; clear hSw; go_simp; (first | done | with_reducible rfl | omega))
                      (try simp only [Act.put, List.setIfInBounds_toArray, List.set_cons_zero, List.set_cons_succ])
                      refine take_ (i := 1) (oi := { dst := some 127, op := Go.Op.move (Go.Operand.tmp 18), type := 3, pos := "law.go:165", after := #[], guard := none }) (v := ?v1_q) #[true, true, false, false, false, false, false, false, false, false] rfl rfl (by kernel_rfl) (fun _ _ _ h => h) (Or.inl ⟨by rfl, ?hy1_q⟩) hHeld rfl ?rest1_q
                      case hy1_q => (intro w hSw; have e0' := pw_cell_below hSw e0; have e1' := pw_cell_below hSw e1; have e2' := pw_cell_below hSw e2; have f0' := pw_cell_below hSw f0; have f1' := pw_cell_below hSw f1; have f2' := pw_cell_below hSw f2; clear hSw; go_simp; (first | done | with_reducible rfl | omega))
                      (try simp only [Act.put, List.setIfInBounds_toArray, List.set_cons_zero, List.set_cons_succ])
                      refine take_ (i := 2) (oi := { dst := some 128, op := Go.Op.indexAddr 27 (Go.Operand.tmp 126) (Go.Operand.tmp 127), type := 0, pos := "law.go:165", after := #[{ on := 0, ground := Go.Ground.data }, { on := 1, ground := Go.Ground.data }], guard := none }) (v := ?v2_q) #[true, true, true, false, false, false, false, false, false, false] rfl rfl (by kernel_rfl) (fun _ _ _ h => h) (Or.inl ⟨by rfl, ?hy2_q⟩) hHeld rfl ?rest2_q
                      case hy2_q => (intro w hSw; have e0' := pw_cell_below hSw e0; have e1' := pw_cell_below hSw e1; have e2' := pw_cell_below hSw e2; have f0' := pw_cell_below hSw f0; have f1' := pw_cell_below hSw f1; have f2' := pw_cell_below hSw f2; clear hSw; go_simp; (first | done | with_reducible rfl | omega))
                      (try simp only [Act.put, List.setIfInBounds_toArray, List.set_cons_zero, List.set_cons_succ])
                      refine take_ (i := 3) (oi := { dst := some 129, op := Go.Op.load 36 (Go.Operand.tmp 128), type := 36, pos := "law.go:165", after := #[{ on := 2, ground := Go.Ground.data }], guard := none }) (v := ?v3_q) #[true, true, true, true, false, false, false, false, false, false] rfl rfl (by kernel_rfl) (fun _ _ _ h => h) (Or.inl ⟨by rfl, ?hy3_q⟩) hHeld rfl ?rest3_q
                      case hy3_q => (intro w hSw; have e0' := pw_cell_below hSw e0; have e1' := pw_cell_below hSw e1; have e2' := pw_cell_below hSw e2; have f0' := pw_cell_below hSw f0; have f1' := pw_cell_below hSw f1; have f2' := pw_cell_below hSw f2; clear hSw; go_simp; (first | done | with_reducible rfl | omega))
                      (try simp only [Act.put, List.setIfInBounds_toArray, List.set_cons_zero, List.set_cons_succ])
                      refine take_ (i := 4) (oi := { dst := some 130, op := Go.Op.move (Go.Operand.tmp 5), type := 31, pos := "law.go:165", after := #[], guard := none }) (v := ?v4_q) #[true, true, true, true, true, false, false, false, false, false] rfl rfl (by kernel_rfl) (fun _ _ _ h => h) (Or.inl ⟨by rfl, ?hy4_q⟩) hHeld rfl ?rest4_q
                      case hy4_q => (intro w hSw; have e0' := pw_cell_below hSw e0; have e1' := pw_cell_below hSw e1; have e2' := pw_cell_below hSw e2; have f0' := pw_cell_below hSw f0; have f1' := pw_cell_below hSw f1; have f2' := pw_cell_below hSw f2; clear hSw; go_simp; (first | done | with_reducible rfl | omega))
                      (try simp only [Act.put, List.setIfInBounds_toArray, List.set_cons_zero, List.set_cons_succ])
                      refine take_ (i := 5) (oi := { dst := some 131, op := Go.Op.move (Go.Operand.tmp 18), type := 3, pos := "law.go:165", after := #[], guard := none }) (v := ?v5_q) #[true, true, true, true, true, true, false, false, false, false] rfl rfl (by kernel_rfl) (fun _ _ _ h => h) (Or.inl ⟨by rfl, ?hy5_q⟩) hHeld rfl ?rest5_q
                      case hy5_q => (intro w hSw; have e0' := pw_cell_below hSw e0; have e1' := pw_cell_below hSw e1; have e2' := pw_cell_below hSw e2; have f0' := pw_cell_below hSw f0; have f1' := pw_cell_below hSw f1; have f2' := pw_cell_below hSw f2; clear hSw; go_simp; (first | done | with_reducible rfl | omega))
                      (try simp only [Act.put, List.setIfInBounds_toArray, List.set_cons_zero, List.set_cons_succ])
                      refine take_ (i := 6) (oi := { dst := some 132, op := Go.Op.indexAddr 31 (Go.Operand.tmp 130) (Go.Operand.tmp 131), type := 0, pos := "law.go:165", after := #[{ on := 4, ground := Go.Ground.data }, { on := 5, ground := Go.Ground.data }], guard := none }) (v := ?v6_q) #[true, true, true, true, true, true, true, false, false, false] rfl rfl (by kernel_rfl) (fun _ _ _ h => h) (Or.inl ⟨by rfl, ?hy6_q⟩) hHeld rfl ?rest6_q
                      case hy6_q => (intro w hSw; have e0' := pw_cell_below hSw e0; have e1' := pw_cell_below hSw e1; have e2' := pw_cell_below hSw e2; have f0' := pw_cell_below hSw f0; have f1' := pw_cell_below hSw f1; have f2' := pw_cell_below hSw f2; clear hSw; go_simp; (first | done | with_reducible rfl | omega))
                      (try simp only [Act.put, List.setIfInBounds_toArray, List.set_cons_zero, List.set_cons_succ])
                      refine take_ (i := 7) (oi := { dst := some 133, op := Go.Op.load 38 (Go.Operand.tmp 132), type := 38, pos := "law.go:165", after := #[{ on := 6, ground := Go.Ground.data }], guard := none }) (v := ?v7_q) #[true, true, true, true, true, true, true, true, false, false] rfl rfl (by kernel_rfl) (fun _ _ _ h => h) (Or.inl ⟨by rfl, ?hy7_q⟩) hHeld rfl ?rest7_q
                      case hy7_q => (intro w hSw; have e0' := pw_cell_below hSw e0; have e1' := pw_cell_below hSw e1; have e2' := pw_cell_below hSw e2; have f0' := pw_cell_below hSw f0; have f1' := pw_cell_below hSw f1; have f2' := pw_cell_below hSw f2; clear hSw; go_simp; (first | done | with_reducible rfl | omega))
                      (try simp only [Act.put, List.setIfInBounds_toArray, List.set_cons_zero, List.set_cons_succ])
                      refine one_ (i := 8) (oi := { dst := some 134, op := Go.Op.call { callee := Go.Callee.value (Go.Operand.func 11), args := #[Go.Operand.tmp 129, Go.Operand.tmp 133], argTypes := #[36, 38] }, type := 4, pos := "law.go:165", after := #[{ on := 3, ground := Go.Ground.data }, { on := 7, ground := Go.Ground.data }], guard := none }) #[true, true, true, true, true, true, true, true, true, false] rfl rfl (by kernel_rfl) (by decide) (fun K hK => ?_)
                      go_simp
                      obtain ⟨kis, his⟩ := is_f s (by have := HGI.out.2.2.2; omega)
                      refine (enfiladelaw20_Is.calls kis s.f0 s.f1 A6 c6 s.f2 s.f0 s.f1 A8 c8 s.f2 true _ (Kd.C_drew2 HC6.out) hc6 (Kd.C_drew2 HC8.out) hc8 his).mono ?_
                      rintro e w13 ⟨rfl, hd9⟩
                      have hb13 : Below wr.heap.size wr w13 := (below_drew (Below.refl _ wr)).trans hd9
                      have HB13 := Lib.hid hb13
                      clear his hd9
                      refine hK.out _ _ hb13 (fun hHeld8q => ?_)
                      clear hK K hb13
                      (try simp only [Act.put, List.setIfInBounds_toArray, List.set_cons_zero, List.set_cons_succ])
                      refine last_ (i := 9) (oi := { dst := some 135, op := Go.Op.unOp Go.UnOp.not 4 (Go.Operand.tmp 134), type := 4, pos := "law.go:165", after := #[{ on := 8, ground := Go.Ground.data }], guard := none }) #[true, true, true, true, true, true, true, true, true, true] rfl rfl (by kernel_rfl) (by decide) (fun K hK => ?_)
                      go_simp
                      refine hK.out _ _ ?_
                      clear hK K
                      refine done_ (by kernel_rfl) ?_
                      clear hHeld hHeld8q
                      go_wp2_with fail
                      go_roundg (lo.length - (j + 1))
                      case rel => exact ⟨j + 1, by omega, by go_num, rfl, HKJ.out.below HB13.out⟩
                      case measure => omega
                    · go_wp2_with fail
                      go_roundg (2 - (i + 1))
                      case rel =>
                        refine ⟨i + 1, by omega, by go_num, rfl, HK5A.out.then_ HKJ.out (fun _ h => h.elim), fun h1 => ?_, ?_, fun h => by omega⟩
                        · exact (HKA.out.then_ HKJ.out (fun _ h => h.elim)).mono (fun k hk => HSZ.out (by omega) k hk)
                        · exact (HKA.out.then_ HKJ.out (fun _ h => h.elim)).mono (fun k hk => HST.out k hk)
                      case measure => omega
            · have hie : i = 2 := by omega
              subst hie
              go_wp2_with fail
              go_ret
              exact ⟨rfl, HK5.out.then_ HK5Z.out (fun _ h => h.elim)⟩
end Go.Proofs.Yteamocejpankdaa
