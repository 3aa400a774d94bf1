/- The walk's All: what it hands back. For every world. -/
import Derived.Test.YteamocejpankdaaA7
namespace Go.Proofs.Yteamocejpankdaa
open Go.Proofs.YteamocejpankdaaW.PrintLast Go.RowKit Go.Shelf Go.Proofs.YteamocejpankdaaW.PrintWords Go.Proofs.Yteamocejpankdaa.PWalkCopies
set_option linter.unusedVariables false
set_option linter.unusedSimpArgs false

/-- No end of a row that a walk could ever have. -/
def OkS (row : List S38) (L : List ByteArray) : Prop := (∀ s ∈ row, SOk s) ∧ L.length + row.length ≤ 900000000000
/-- What a walk tells from here on until it is over or waits. -/
inductive Tells (F : ByteArray → Int × List S44) (dep : Int) (sug : Bool) : List S38 → List ByteArray → List S38 → Prop
  | stop {row L} : OkS row L → (∀ s, (nextM F dep sug row L).2.2 ≠ some (s, 2)) → Tells F dep sug row L []
  | tell {row L row' L' s out} : OkS row L → nextM F dep sug row L = (row', L', some (s, 2)) → Tells F dep sug row' L' out → Tells F dep sug row L (s :: out)
theorem Tells.ok {F : ByteArray → Int × List S44} {dep : Int} {sug : Bool} {row : List S38} {L : List ByteArray} {out : List S38} (h : Tells F dep sug row L out) : OkS row L := by
  cases h <;> assumption

theorem IsWalkO.step {ok : Nat → Prop} {A A' : World} {B gw gm : Nat} {vs : Value} {dep : Int} {sug : Bool} {row : List S38} {n : Nat} {came : ByteArray → Int} (h : IsWalkO ok A B gw gm vs dep sug row n came)
    (hm : ∀ k, (k = gw ∨ k = gm ∨ ok k) → k < A.heap.size → A'.heap[k]? = A.heap[k]?) : IsWalkO ok A' B gw gm vs dep sug row n came :=
  ⟨h.base, (hm gw (.inl rfl) (blk_lt h.obj)).trans h.obj, h.map.step (hm gm (.inr (.inl rfl)) h.map.lt), Kd.R_step h.stack (fun k hk hlt => hm k (.inr (.inr hk)) hlt)⟩
theorem IsWalkO.off {ok : Nat → Prop} {A : World} {B gw gm : Nat} {vs : Value} {dep : Int} {sug : Bool} {row : List S38} {n : Nat} {came : ByteArray → Int} (h : IsWalkO ok A B gw gm vs dep sug row n came) {N : Nat} {cells : Array Value} (hN : A.heap[N]? = some (.cells cells 36 (0, 0))) (hne : some N ≠ vs.ownBlock) :
    IsWalkO (fun k => ok k ∧ k ≠ N) A B gw gm vs dep sug row n came := ⟨⟨h.base.1, h.base.2.1, fun k hk => h.base.2.2 k hk.1⟩, h.obj, h.map, R_off h.stack hN (by decide) hne⟩

def okO (gw gm : Nat) (vs : Value) (bx : Nat) : Nat → Prop := fun k => k ≠ gw ∧ k ≠ gm ∧ some k ≠ vs.ownBlock ∧ k ≠ bx
def AllInv (W : World) (F : ByteArray → Int × List S44) (dep : Int) (sug : Bool) (out : List S38) (kq : Nat) (gw gm : Nat) (t11 t12 t13 t14 : Value) (wr : World) : Prop :=
  ∃ acc vs row L bx c0 c1 c2, k38.R 36 wr W.heap.size (okO gw gm vs bx) t11 acc ∧ t12 = .pointer (some ⟨bx, 0, none⟩) ∧ wr.heap[bx]? = some (.cells #[c0, c1, c2] 36 (0, 0)) ∧ W.heap.size ≤ bx ∧ some bx ≠ vs.ownBlock ∧
    IsWalk wr W.heap.size gw gm vs dep sug row L.length (cameF L) ∧ Kept W wr (fun _ => False) ∧
    ((∃ s rest, t13 = .int .i64 2 ∧ t14 = .bool true ∧ k38.M wr W.heap.size (fun k => okO gw gm vs bx k ∧ some k ≠ t11.ownBlock) s [c0, c1, c2] ∧ Tells F dep sug row L rest ∧ out = acc ++ s :: rest ∧ kq = rest.length + 1) ∨
      ∃ (k : Int) (b : Bool), t13 = .int .i64 k ∧ t14 = .bool b ∧ (b = true → k ≠ 2) ∧ out = acc)

/-- Another row has been written beside the walk. -/
theorem IsWalkO.beside {ok : Nat → Prop} {A A' : World} {B gw gm : Nat} {vs v : Value} {dep : Int} {sug : Bool} {row acc : List S38} {n base : Nat} {came : ByteArray → Int} {okv : Nat → Prop} (h : IsWalkO ok A B gw gm vs dep sug row n came) (hR : k38.R 36 A base okv v acc)
    (hokv : ∀ k, okv k → k ≠ gw ∧ k ≠ gm ∧ some k ≠ vs.ownBlock) (hg : A.grownBy A' v.ownBlock) : IsWalkO ok A' B gw gm vs dep sug row n came := by
  cases ho : v.ownBlock with
  | none => exact h.step (fun k _ hlt => hg.block k hlt (by rw [ho]; simp))
  | some j =>
    obtain ⟨cells, hc⟩ := Kd.R_typed hR j ho
    have hj := hokv j (hR.1 j ho)
    refine ((h.off hc hj.2.2).step (fun k hk hlt => hg.block k hlt ?_)).mono (fun k hk => hk.1) h.base.2.2
    rw [ho]
    intro e
    injection e with e
    subst e
    rcases hk with e | e | e
    · exact hj.1 e
    · exact hj.2.1 e
    · exact e.2 rfl

/-- What Next leaves, as the loop keeps it. -/
theorem inv_of_next {W w w' wf : World} {F : ByteArray → Int × List S44} {dep : Int} {sug : Bool} {acc out outr rest : List S38} {gw gm bx : Nat} {vs vs' v : Value} {row' : List S38} {L' : List ByteArray} {c0 c1 c2 : Value} {k : Int} {b : Bool}
    (hR : k38.R 36 w W.heap.size (okO gw gm vs bx) v acc) (hw : Kept W w (fun _ => False)) (hi : IsWalk w' W.heap.size gw gm vs' dep sug row' L'.length (cameF L')) (hk : Kept w w' (TW gw gm vs)) (hv : vs'.ownBlock = vs.ownBlock ∨ ∃ b, vs'.ownBlock = some b ∧ w.heap.size ≤ b)
    (hgw : W.heap.size ≤ gw ∧ W.heap.size ≤ gm) (hgl : gw < w.heap.size) (hml : gm < w.heap.size) (hvB : ∀ k, vs.ownBlock = some k → W.heap.size ≤ k) (hf : Kept w' wf (fun k => k = bx)) (hbx : wf.heap[bx]? = some (.cells #[c0, c1, c2] 36 (0, 0))) (hB : W.heap.size ≤ bx) (hne : some bx ≠ vs'.ownBlock) (hty : bx < w.heap.size ∧ (∃ cells, w'.heap[bx]? = some (.cells cells 36 (0, 0))) ∨ w'.heap.size ≤ bx)
    (hq : (∃ s, k = 2 ∧ b = true ∧ k38.M w' w.heap.size (fun k => w.heap.size ≤ k ∧ some k ≠ vs'.ownBlock) s [c0, c1, c2] ∧ Tells F dep sug row' L' rest ∧ outr = s :: rest) ∨ ((b = true → k ≠ 2) ∧ outr = [] ∧ rest = [])) (hout : out = acc ++ outr) :
    AllInv W F dep sug out outr.length gw gm v (.pointer (some ⟨bx, 0, none⟩)) (.int .i64 k) (.bool b) wf := by
  have hwf : Kept W wf (fun _ => False) := (hw.then_ hk (fun k hk => .inr (hk.elim (fun e => e ▸ hgw.1) (fun hk => hk.elim (fun e => e ▸ hgw.2) (fun e => hvB k e.symm))))).then_ hf (fun k e => .inr (e ▸ hB))
  have hifar : IsWalk wf W.heap.size gw gm vs' dep sug row' L'.length (cameF L') := by
    rcases hty with ⟨_, cells, hc⟩ | hge
    · refine ((hi.off hc hne).step (fun k hk hlt => hf.2 k hlt ?_)).mono (fun k hk => hk.1) (fun k hk => hk)
      rintro rfl
      rcases hk with e | e | e
      · subst e; rw [hi.obj] at hc; injection hc with hc; injection hc with _ hc; cases hc
      · subst e
        obtain ⟨es, cl, hb⟩ := hi.map.blk
        rw [hc] at hb
        injection hb with hb
        cases hb
      · exact e.2 rfl
    · exact hi.step (fun k _ hlt => hf.2 k hlt (by omega))
  have hR1 : k38.R 36 wf W.heap.size (okO gw gm vs' bx) v acc := by
    have h1 := Kd.R_kept (Kd.R_bound hR) hk (fun k hk h => h.elim (fun e => hk.1.1 e) (fun h => h.elim (fun e => hk.1.2.1 e) (fun e => hk.1.2.2.1 e)))
    refine Kd.R_mono (Kd.R_kept h1 hf (fun k hk e => hk.1.2.2.2 e)) (fun k hk => ⟨hk.1.1, hk.1.2.1, fun e => ?_, hk.1.2.2.2⟩)
    rcases hv with h | ⟨b, h, hb⟩
    · exact hk.1.2.2.1 (e.trans h)
    · rw [h] at e
      injection e with e
      have := hk.2.2.1
      omega
  rcases hq with ⟨s, rfl, rfl, hM, hT, rfl⟩ | ⟨hb, rfl, rfl⟩
  · refine ⟨acc, vs', row', L', bx, c0, c1, c2, hR1, rfl, hbx, hB, hne, hifar, hwf, .inl ⟨s, rest, rfl, rfl, ?_, hT, hout, rfl⟩⟩
    have hM1 := k38.M_lower hw.1 (k38.M_move (w1 := wf) (fun k hk => hf.2 k hk.2.2.1 ?_) (k38.M_bound hM))
    · refine k38.M_mono (fun k hk => ⟨⟨?_, ?_, hk.1.2, ?_⟩, fun e => ?_⟩) hM1
      · have := hk.1.1; omega
      · have := hk.1.1; omega
      · have := hk.1.1
        have := hk.2.2.1
        rcases hty with h | h <;> omega
      · have := Kd.R_lt hR k e.symm
        have := hk.1.1
        omega
    · have := hk.1.1
      have := hk.2.2.1
      rcases hty with h | h <;> omega
  · exact ⟨acc, vs', row', L', bx, c0, c1, c2, hR1, rfl, hbx, hB, hne, hifar, hwf, .inr ⟨k, b, rfl, rfl, hb, by rw [hout, List.append_nil]⟩⟩

def AllPost (W : World) (l : List S38) (e : Ending) (W' : World) : Prop := ∃ v, e = .returned v ∧ k38.R 36 W' W.heap.size (fun _ => True) v l ∧ Kept W W' (fun _ => False)
/-- What Next hands back, whatever became of it. -/
theorem next_form {B gw gm : Nat} {vs : Value} {dep : Int} {sug : Bool} {W W' : World} {F : ByteArray → Int × List S44} {row out : List S38} {L : List ByteArray} {e : Ending} (h : NextPost B gw gm vs dep sug W (nextM F dep sug row L) e W') (hT : Tells F dep sug row L out) :
    ∃ vs' row' L' x0 x1 A n c k b rest, e = .returned (.tuple #[.agg #[.string x0, .int .i64 x1, .slice A n c], .int .i64 k, .bool b]) ∧ IsWalk W' B gw gm vs' dep sug row' (List.length L') (cameF L') ∧ Kept W W' (TW gw gm vs) ∧
      (vs'.ownBlock = vs.ownBlock ∨ ∃ b, vs'.ownBlock = some b ∧ W.heap.size ≤ b) ∧
      ((∃ s, k = 2 ∧ b = true ∧ k38.M W' W.heap.size (fun k => W.heap.size ≤ k ∧ some k ≠ vs'.ownBlock) s [.string x0, .int .i64 x1, .slice A n c] ∧ Tells F dep sug row' L' rest ∧ out = s :: rest) ∨ ((b = true → k ≠ 2) ∧ out = [] ∧ rest = [])) := by
  obtain ⟨vs', hi, hk, hv, hq⟩ := h
  generalize hnx : nextM F dep sug row L = q at *
  obtain ⟨row2, L2, o⟩ := q
  dsimp only at hi hq
  cases o with
  | none =>
    dsimp only at hq
    subst hq
    refine ⟨vs', row2, L2, _, _, _, _, _, _, _, [], rfl, hi, hk, hv, .inr ⟨by decide, ?_, rfl⟩⟩
    cases hT with
    | stop _ _ => rfl
    | tell _ h2 _ => rw [hnx] at h2; cases h2
  | some sk =>
    obtain ⟨s, k⟩ := sk
    obtain ⟨cs, rfl, hM⟩ := hq
    obtain ⟨v2, rfl, hR2⟩ := k38_openM hM
    obtain ⟨A, c, rfl⟩ := Kd.R_slice hR2
    cases hT with
    | stop _ h2 =>
      refine ⟨vs', row2, L2, _, _, _, _, _, _, _, [], rfl, hi, hk, hv, .inr ⟨fun _ e => ?_, rfl, rfl⟩⟩
      rw [hnx] at h2
      exact h2 s (by rw [e])
    | tell _ h2 h3 =>
      rw [hnx] at h2
      cases h2
      exact ⟨vs', row2, L2, _, _, _, _, _, _, _, _, rfl, hi, hk, hv, .inl ⟨_, rfl, rfl, hM, h3, rfl⟩⟩

set_option maxRecDepth 100000 in
set_option maxHeartbeats 1000000 in
theorem all_walk_calls (W : World) (root : ByteArray) (depth : Int) (sug : Bool) (hr : root.size ≤ maxLen) (g : Nat) (lb : Array Value) (F : ByteArray → Int × List S44) (w0 : World) (hb : Kept w0 W (fun _ => False)) (hA : AskFn g lb F w0) (hF : FOk F)
    (out : List S38) (hT : newB root depth = true → Tells F depth sug [⟨root, 0, []⟩] [] out) (hl : out.length ≤ 1000000) (l : List S38) (hle : l = if newB root depth = true then out else []) :
    Calls Try.prog 8 #[.string root, .int .i64 depth, .bool sug, .func (.func g) #[] lb] W (AllPost W l) := by
  have HL := Lib.hid hle; clear hle
  have HA := Lib.hid hA; clear hA
  have HB := Lib.hid hb; clear hb
  have HF := Lib.hid hF; clear hF
  have HT := Lib.hid hT; clear hT
  go_enter Try.func8, Try.ntmps8
  go_wp2_with fail
  refine (new_calls _ root depth sug hr).mono ?_
  rintro e w1 ⟨hb1, hn⟩
  have HB1 := Lib.hid hb1; clear hb1
  cases hnb : newB root depth with
  | false =>
    rw [if_neg (by simp [hnb])] at hn
    obtain ⟨p, rfl⟩ := hn
    go_wp2_with fail
    go_ret
    have hl := HL.out
    rw [if_neg (by simp [hnb])] at hl
    subst hl
    exact ⟨_, rfl, Kd.R_nil _ _ _ _ _, Kept.of_below HB1.out _⟩
  | true =>
    rw [if_pos hnb] at hn
    obtain ⟨gw, gm, vs, rfl, hi⟩ := hn
    have hgw := blk_lt hi.obj
    have hgm := hi.map.lt
    have hbase := hi.base
    have HVB := Lib.hid (Kd.R_base hi.stack)
    have HI := Lib.hid hi; clear hi
    have hT := HT.out hnb
    have hok := hT.ok
    have HT1 := Lib.hid hT; clear hT
    have HOK := Lib.hid hok; clear hok
    have hl2 := HL.out
    rw [if_pos hnb] at hl2
    subst hl2
    go_wp2_with fail
    refine (next_calls w1 W.heap.size gw gm vs depth sug [⟨root, 0, []⟩] [] HI.out g lb F w0 HB.out.1 (HB.out.then_ (Kept.of_below HB1.out (fun _ => False)) (fun _ hk => hk.elim)) HA.out HF.out HOK.out.1 (by simp) (by simp)).mono ?_
    rintro e w2 hN
    obtain ⟨vs2, row2, L2, x0, x1, A, n, c, k, b, rest, rfl, hi2, hk2, hv2, hq⟩ := next_form hN HT1.out
    clear hN
    have HI2 := Lib.hid hi2; clear hi2
    have HK2 := Lib.hid hk2; clear hk2
    have HV2 := Lib.hid hv2; clear hv2
    have HQ := Lib.hid hq; clear hq
    go_wp2_with fail
    go_loopg [11, 12, 13, 14] (l.length) (fun kq t11 t12 t13 t14 wr => AllInv W F depth sug l kq gw gm t11 t12 t13 t14 wr)
    case atStart =>
      have hR0 : k38.R 36 w1 W.heap.size (okO gw gm vs w2.heap.size) (.slice none 0 0) [] := Kd.R_nil _ _ _ _ _
      refine inv_of_next hR0 (Kept.of_below HB1.out _) HI2.out HK2.out HV2.out ⟨hbase.1, hbase.2.1⟩ hgw hgm HVB.out (wf := w2.alloc (.cells #[.string x0, .int .i64 x1, .slice A n c] 36)) ((Kept.refl w2 _).alloc _) (heap_alloc_new w2 _) ?_ ?_ (.inr (Nat.le_refl _)) HQ.out rfl
      · have := HB1.out.size; have := HK2.out.1; omega
      · intro e
        have := Kd.R_lt HI2.out.stack _ e.symm
        omega
    case round =>
      obtain ⟨acc, vs3, row3, L3, bx, c0, c1, c2, hR3, rfl, hb3, hB3, hne3, hi3, hk3, hq3⟩ := hrel
      have hgw3 := blk_lt hi3.obj
      have hgm3 := hi3.map.lt
      have hbl3 := blk_lt hb3
      rcases hq3 with ⟨s, rest3, rfl, rfl, hM3, hT3, ho3, rfl⟩ | ⟨k3, b3, rfl, rfl, hkb, ho3⟩
      · obtain ⟨v3, hcs, hRv3⟩ := k38_openM hM3
        injection hcs with e0 hcs; injection hcs with e1 hcs; injection hcs with e2 _
        subst e0; subst e1; subst e2
        obtain ⟨A3, c3, rfl⟩ := Kd.R_slice hRv3
        obtain ⟨Ao, co, rfl⟩ := Kd.R_slice hR3
        have q0 := (blk_cell hb3 0).trans rfl
        have q1 := (blk_cell hb3 1).trans rfl
        have q2 := (blk_cell hb3 2).trans rfl
        have HR3 := Lib.hid hR3; clear hR3
        have HI3 := Lib.hid hi3; clear hi3
        have HM3 := Lib.hid hM3; clear hM3
        have HT3 := Lib.hid hT3; clear hT3
        have HO3 := Lib.hid ho3; clear ho3
        have HB3 := Lib.hid hb3; clear hb3
        have HK3 := Lib.hid hk3; clear hk3
        have HLA := Lib.hid (show acc.length + 1 ≤ l.length by rw [HO3.out]; simp)
        go_wp2_with ((with_reducible refine gate_builtin (b := .append) (xs := #[.tmp 43, .tmp 45]) rfl ?_); at_builtin; refine Kd.R_append k38 (w0 := wr) W.heap.size rfl (.tmp 43) (.tmp 45) 27 36 (.agg #[.string ⟨#[]⟩, .int .i64 0, .slice none 0 0]) 48 rfl Try.underlying27 info36 rfl (by decide) (by decide) (.slice Ao acc.length co) acc s [.string s.f0, .int .i64 s.f1, .slice A3 s.f2.length c3] (okO gw gm vs3 bx) (fun k => okO gw gm vs3 bx k ∧ some k ≠ (Value.slice Ao acc.length co).ownBlock) rfl rfl HM3.out (fun k hk => hk) ?hfr HR3.out (Below.refl _ _) HK3.out.1 ?hln ?happ)
        case hfr =>
          intro k hk
          refine ⟨by omega, by omega, fun e => ?_, by omega⟩
          have := Kd.R_lt HI3.out.stack k e.symm
          omega
        case hln => have := HLA.out; omega
        case happ => 
          intro v4 w4 hR4 _ hg4 hat4
          have n4 : some bx ≠ (Value.slice Ao acc.length co).ownBlock := fun e => (HR3.out.1 bx e.symm).2.2.2 rfl
          have b4 := (hg4.block bx (blk_lt HB3.out) n4).trans HB3.out
          have hbl4 := blk_lt b4
          have q0 := (blk_cell b4 0).trans rfl
          have q1 := (blk_cell b4 1).trans rfl
          have q2 := (blk_cell b4 2).trans rfl
          have i4 := HI3.out.beside HR3.out (fun k hk => ⟨hk.1, hk.2.1, hk.2.2.1⟩) hg4
          have k4 : Kept W w4 (fun _ => False) := Kept.of_grown hg4 HK3.out (fun k hk => .inr (Kd.R_base HR3.out k hk))
          have hsz4 := hg4.size
          have I4 := Lib.hid i4; clear i4
          have K4 := Lib.hid k4; clear k4
          have HR4 := Lib.hid hR4; clear hR4
          have HB4 := Lib.hid b4; clear b4
          have HG4 := Lib.hid hg4; clear hg4
          have HAT4 := Lib.hid hat4; clear hat4
          have hok3 := HT3.out.ok
          have hokl := hok3.2
          have HOK3 := Lib.hid hok3.1; clear hok3
          have b5 : (w4.alloc (.cells #[.string s.f0, .int .i64 s.f1, .slice A3 s.f2.length c3] 36)).heap[w4.heap.size]? = _ := heap_alloc_new w4 _
          have i5 := I4.out.below (below_alloc (Below.refl _ w4) (.cells #[.string s.f0, .int .i64 s.f1, .slice A3 s.f2.length c3] 36))
          have k5 := K4.out.alloc (.cells #[.string s.f0, .int .i64 s.f1, .slice A3 s.f2.length c3] 36)
          have r5 : k38.R 36 (w4.alloc (.cells #[.string s.f0, .int .i64 s.f1, .slice A3 s.f2.length c3] 36)) W.heap.size (okO gw gm vs3 w4.heap.size) v4 (acc ++ [s]) :=
            Kd.R_alloc (Kd.R_mono (Kd.R_bound HR4.out) (fun k hk => ⟨hk.1.1, hk.1.2.1, hk.1.2.2.1, by have := hk.2.2.1; omega⟩)) _
          have hs5 : (w4.alloc (.cells #[.string s.f0, .int .i64 s.f1, .slice A3 s.f2.length c3] 36)).heap.size = w4.heap.size + 1 := World.size_alloc _ _
          have HVB3 := Lib.hid (Kd.R_base i5.stack)
          have hVL3 := Lib.hid (Kd.R_lt I4.out.stack)
          go_wp2_with fail
          generalize (w4.alloc (.cells #[.string s.f0, .int .i64 s.f1, .slice A3 s.f2.length c3] 36)) = w5 at *
          have hgw5 := blk_lt i5.obj
          have hgm5 := i5.map.lt
          have I5 := Lib.hid i5; clear i5
          have R5 := Lib.hid r5; clear r5
          have K5 := Lib.hid k5; clear k5
          refine (next_calls w5 W.heap.size gw gm vs3 depth sug row3 L3 I5.out g lb F w0 HB.out.1 (HB.out.then_ K5.out (fun _ hk => hk.elim)) HA.out HF.out HOK3.out (by omega) (by omega)).mono ?_
          rintro e w6 hN
          obtain ⟨vs6, row6, L6, y0, y1, A6, n6, c6, k6, b6, rest6, rfl, hi6, hk6, hv6, hq6⟩ := next_form hN HT3.out
          clear hN
          have hsz6 := hk6.1
          have bb6 : w6.heap[w4.heap.size]? = _ := (hk6.2 _ (by omega) (fun h => by
            rcases h with e | e | e
            · omega
            · omega
            · have := hVL3.out _ e.symm; omega)).trans b5
          have p0 := (blk_cell bb6 0).trans rfl
          have p1 := (blk_cell bb6 1).trans rfl
          have p2 := (blk_cell bb6 2).trans rfl
          have hbl6 := blk_lt bb6
          have pf : ∀ i, w6.frozen? ⟨w4.heap.size, i, none⟩ = false := fun i => by simp [World.frozen?, bb6]
          have HI6 := Lib.hid hi6; clear hi6
          have HK6 := Lib.hid hk6; clear hk6
          have HV6 := Lib.hid hv6; clear hv6
          have HQ6 := Lib.hid hq6; clear hq6
          have BB6 := Lib.hid bb6; clear bb6
          clear q0 q1 q2 b5
          go_wp2_with fail
          go_roundg (rest3.length)
          case rel =>
            have w1b := blk_set (blk_set (blk_set BB6.out 0 (.string y0)) 1 (.int .i64 y1)) 2 (.slice A6 n6 c6)
            refine inv_of_next (w := w5) (w' := w6) (acc := acc ++ [s]) (outr := rest3) (bx := w4.heap.size) R5.out K5.out HI6.out HK6.out HV6.out ⟨hbase.1, hbase.2.1⟩ hgw5 hgm5 HVB3.out ?_ (by simpa using w1b) ?_ ?_ (.inl ⟨by omega, _, BB6.out⟩) HQ6.out (by rw [HO3.out]; simp)
            · have e0 : (fun k : Nat => k = w4.heap.size) w4.heap.size := rfl
              exact (((Kept.refl w6 (fun k => k = w4.heap.size)).setCell (p := ⟨w4.heap.size, 0, none⟩) (.inl e0) (.string y0)).setCell (p := ⟨w4.heap.size, 1, none⟩) (.inl e0) (.int .i64 y1)).setCell (p := ⟨w4.heap.size, 2, none⟩) (.inl e0) (.slice A6 n6 c6)
            · have := K4.out.1; omega
            · intro e
              rcases HV6.out with h | ⟨j, h, hj⟩
              · have := hVL3.out _ (h ▸ e.symm); omega
              · rw [h] at e; injection e with e; omega
          case measure => omega
      · by_cases hb4 : b3 = true
        · have := hkb hb4
          subst hb4
          subst ho3
          go_wp2_with fail
          go_ret
          exact ⟨_, rfl, Kd.R_mono hR3 (fun _ _ => trivial), hk3⟩
        · have hb5 : b3 = false := by simpa using hb4
          subst hb5
          subst ho3
          go_wp2_with fail
          go_ret
          exact ⟨_, rfl, Kd.R_mono hR3 (fun _ _ => trivial), hk3⟩
end Go.Proofs.Yteamocejpankdaa
