/- The walk's below: the children that count stand ahead of all others in the row, in their order. For every world. -/
import Derived.Test.YteamocejpankdaaA4
namespace Go.Proofs.Yteamocejpankdaa
open Go.Proofs.YteamocejpankdaaW.PrintLast Go.RowKit Go.Shelf Go.Proofs.YteamocejpankdaaW.PrintWords Go.Proofs.Yteamocejpankdaa.PWalkCopies
attribute [local go_sem] Oper.semAt_some
set_option linter.unusedVariables false
set_option linter.unusedSimpArgs false

/-- The beginning of a region that draws, in a round. -/
theorem start_in {P : Program} {ops : Array Oper} {Q : Exit → Act → World → Prop} {S : World → Prop} {ds : List Nat} {r k id n : Nat} {a : Act} {w : World} (l : Array Bool) (hm : P.follows .mixedOrders = true) (hd : noDefer ops = true) (hQ : ¬ LetsOut Q)
    (hn : ops.size = n) (hl : Array.replicate n false = l) (hS : S w.drew) (h : S w.drew → wpAnyLast P .any ops Q S ds n l a w.drew) : (Code.region id ops true).wpIn (Fence.wide.inRound r) k P Q a w := by
  subst hn
  subst hl
  exact wpIn_region_any hm (any_in hd hQ _ _ _ _ (wpAny_of_last _ _ _ _ (h hS)))
theorem info36 : (Try.prog.info? 36).map (fun i => (i.zero, i.size, i.bytes)) = some (some (.agg #[.string ⟨#[]⟩, .int .i64 0, .slice none 0 0]), 3, 48) := by kernel_rfl

def counts (sug : Bool) (c : S44) : Bool := c.f3 || !sug
def stepOf (d : Int) (c : S44) : S38 := ⟨c.f0, d + 1, c.f2⟩
def belowM (dep : Int) (sug : Bool) (d : Int) (l : List S44) : List S38 := if d < dep then (l.filter (counts sug)).map (stepOf d) else []


theorem IsWalkO.own {ok : Nat → Prop} {A A' : World} {B gw gm : Nat} {vs : Value} {dep : Int} {sug : Bool} {row : List S38} {n : Nat} {came : ByteArray → Int} {rw_ : Option Nat} (h : IsWalkO ok A B gw gm vs dep sug row n came)
    (hg : A.grownBy A' rw_) (hr : ∀ r, rw_ = some r → gw ≠ r ∧ gm ≠ r ∧ ∃ o : Obj, A.heap[r]? = some o ∧ o.isCells = false) : IsWalkO ok A' B gw gm vs dep sug row n came := by
  have hne : ∀ k cells q fr, A.heap[k]? = some (.cells cells q fr) → some k ≠ rw_ := by
    rintro k cells q fr hk e
    obtain ⟨_, _, o, ho, hc⟩ := hr k e.symm
    rw [hk] at ho
    injection ho with ho
    subst ho
    cases hc
  refine ⟨h.base, (hg.block _ (blk_lt h.obj) (hne _ _ _ _ h.obj)).trans h.obj, h.map.step (hg.block _ h.map.lt (fun e => (hr gm e.symm).2.1 rfl)), ?_⟩
  refine Kd.R_mono (Kd.R_move (Kd.R_bound h.stack) (fun k hk => ?_)) (fun k hk => hk.1)
  obtain ⟨_, _, hlt, q, _, cells, hc⟩ := hk
  exact hg.block k hlt (hne _ _ _ _ hc)

/-- Between two rounds: those that came so far stand ahead. -/
def BI (W0 : World) (B gw gm : Nat) (vs : Value) (dep : Int) (sug : Bool) (row : List S38) (n : Nat) (came : ByteArray → Int) (l : List S44) (d : Int) (pre : List (Fin l.length)) (W1 : World) : Prop :=
  ∃ vs', IsWalk W1 B gw gm vs' dep sug (((pre.reverse.map fun i => l[i]).filter (counts sug)).map (stepOf d) ++ row) n came ∧ Kept W0 W1 (fun k => k = gw ∨ some k = vs.ownBlock) ∧ (vs'.ownBlock = vs.ownBlock ∨ ∃ b, vs'.ownBlock = some b ∧ W0.heap.size ≤ b)

theorem downto_all {l : List S44} {ys : List (Fin l.length)} (h : ys.map Fin.val = downto id l.length l.length) : (ys.reverse.map fun i => l[i]) = l := by
  have hlen : ys.length = l.length := by
    have := congrArg List.length h
    rwa [List.length_map, downto_length] at this
  apply List.ext_getElem
  · simp [hlen]
  · intro i h1 h2
    have e : ys[ys.length - 1 - i].val = l.length - 1 - (ys.length - 1 - i) := by
      have := congrArg (fun q => q[ys.length - 1 - i]?) h
      simpa [downto, show ys.length - 1 - i < l.length by omega, show ys.length - 1 - i < ys.length by omega] using this
    simp only [List.getElem_map, List.getElem_reverse, Fin.getElem_fin, e]
    congr 1
    omega

theorem BI.own {W0 : World} {B gw gm : Nat} {vs : Value} {dep : Int} {sug : Bool} {row : List S38} {n : Nat} {came : ByteArray → Int} {l : List S44} {d : Int} {pre : List (Fin l.length)} {X Y : World} {rw_ : Option Nat} (h : BI W0 B gw gm vs dep sug row n came l d pre X)
    (hg : X.grownBy Y rw_) (hr : ∀ r, rw_ = some r → W0.heap.size ≤ r ∧ ∃ o : Obj, X.heap[r]? = some o ∧ o.isCells = false) (hgw : gw < W0.heap.size := by omega) (hgm : gm < W0.heap.size := by omega) : BI W0 B gw gm vs dep sug row n came l d pre Y := by
  obtain ⟨vs', h1, h2, h3⟩ := h
  refine ⟨vs', h1.own hg (fun r e => ?_), ⟨Nat.le_trans h2.1 hg.size, fun k hk hne => (hg.block k (Nat.lt_of_lt_of_le hk h2.1) (fun e => ?_)).trans (h2.2 k hk hne), hg.os.trans h2.3.1, hg.tape.trans h2.3.2.1, hg.output.trans h2.3.2.2⟩, h3⟩
  · obtain ⟨a, b⟩ := hr r e
    exact ⟨by omega, by omega, b⟩
  · have := (hr k e.symm).1
    omega

theorem IsWalkO.below {ok : Nat → Prop} {A A' : World} {B gw gm : Nat} {vs : Value} {dep : Int} {sug : Bool} {row : List S38} {n : Nat} {came : ByteArray → Int} (h : IsWalkO ok A B gw gm vs dep sug row n came) (hb : Go.RowKit.Below A.heap.size A A') : IsWalkO ok A' B gw gm vs dep sug row n came :=
  ⟨h.base, (hb.block _ (blk_lt h.obj)).trans h.obj, h.map.step (hb.block _ h.map.lt), Kd.R_below h.stack hb⟩

theorem push_done (W0 W1 w5 w6 : World) (B gw gm : Nat) (vs vs' : Value) (A6 : Option Addr) (c6 : Nat) (dep : Int) (sug : Bool) (row : List S38) (n : Nat) (came : ByteArray → Int) (l : List S44) (d : Int) (pre : List (Fin l.length)) (x : Fin l.length) (okc : Nat → Prop) (N : Nat)
    {W : World} (hB0 : Below W.heap.size W W0) (hokc : ∀ k, okc k → k ≠ gw ∧ k ≠ gm ∧ some k ≠ vs.ownBlock) (hst : k38.R 36 W B (okW gw gm) vs row.reverse)
    (h1 : IsWalk W1 B gw gm vs' dep sug (((pre.reverse.map fun i => l[i]).filter (counts sug)).map (stepOf d) ++ row) n came) (h2 : Kept W0 W1 (fun k => k = gw ∨ some k = vs.ownBlock)) (h3 : vs'.ownBlock = vs.ownBlock ∨ ∃ b, vs'.ownBlock = some b ∧ W0.heap.size ≤ b)
    (hB5 : Below W1.drew.heap.size W1.drew w5) (hcnt : counts sug l[x.val] = true)
    (h5 : IsWalk w5 B gw gm vs' dep sug (((pre.reverse.map fun i => l[i]).filter (counts sug)).map (stepOf d) ++ row) n came)
    (o6 : w6.heap[gw]? = some (.cells #[.int .i64 dep, .bool sug, vs', .map (some gm)] 82 (0, 0))) (m6 : SMap w6 gm n came) {n6 : Nat}
    (hR6 : k38.R 36 w6 B (okW gw gm) (.slice A6 n6 c6) ((((pre.reverse.map fun i => l[i]).filter (counts sug)).map (stepOf d) ++ row).reverse ++ [stepOf d l[x.val]]))
    (hg6 : w5.grownBy w6 vs'.ownBlock) (hat6 : (Value.slice A6 n6 c6).ownBlock = vs'.ownBlock ∨ ∃ b, (Value.slice A6 n6 c6).ownBlock = some b ∧ w5.heap.size ≤ b) (n5 : some gw ≠ vs'.ownBlock) (hsz : W0.heap.size = W.heap.size + 3) (hgw : gw < W.heap.size) :
    KeepsFrom W0.heap.size W1 (w6.setCell ⟨gw, 2, none⟩ (.slice A6 n6 c6)) ∧ Kp (fun k => k = W.heap.size + 2 ∨ okc k ∧ k < W.heap.size) W1 (w6.setCell ⟨gw, 2, none⟩ (.slice A6 n6 c6)) ∧
      BI W0 B gw gm vs dep sug row n came l d (pre ++ [x]) (w6.setCell ⟨gw, 2, none⟩ (.slice A6 n6 c6)) := by
  have hl5 : W1.heap.size ≤ w5.heap.size := hB5.size
  have hl6 : w5.heap.size ≤ w6.heap.size := hg6.size
  have hgw1 := blk_lt h1.obj
  have same : ∀ k, k < W1.heap.size → k ≠ gw → some k ≠ vs'.ownBlock → (w6.setCell ⟨gw, 2, none⟩ (.slice A6 n6 c6)).heap[k]? = W1.heap[k]? := fun k hk hne hv =>
    (Below.heap_setCell w6 ⟨gw, 2, none⟩ _ k hne).trans ((hg6.block k (by omega) hv).trans (hB5.block k hk))
  refine ⟨?_, ?_, .slice A6 n6 c6, ⟨h1.base, by simpa using blk_set o6 2 (.slice A6 n6 c6), m6.step (Below.heap_setCell w6 ⟨gw, 2, none⟩ _ gm h1.ne), ?_⟩, ?_, ?_⟩
  · refine KeepsOthers.from ((KeepsOthers.drew W1).trans ((KeepsOthers.of_grownBy (grown_of_below hB5 none) (fun _ _ e => by cases e)).trans ((KeepsOthers.of_grownBy hg6 ?_).trans (KeepsOthers.setCell _ _ _)))) _
    intro j o hj ho
    obtain ⟨cells, hc⟩ := Kd.R_typed h5.stack j hj
    rw [hc] at ho
    injection ho with ho
    subst ho
    rfl
  · intro k hk
    refine same k ?_ ?_ ?_
    · have := h2.1; have := hB0.size; omega
    · rcases hk with rfl | ⟨hk, _⟩
      · intro e
        omega
      · exact (hokc k hk).1
    · intro e
      rcases h3 with h3 | ⟨b, h3, hb⟩
      · rcases hk with rfl | ⟨hk, _⟩
        · have := Kd.R_lt hst _ (h3 ▸ e.symm); omega
        · exact (hokc k hk).2.2 (h3 ▸ e)
      · rw [h3] at e
        injection e with e
        have := hB0.size
        rcases hk with rfl | ⟨_, hk⟩ <;> omega
  · have e : ((((pre ++ [x]).reverse.map fun i => l[i]).filter (counts sug)).map (stepOf d) ++ row).reverse = ((((pre.reverse.map fun i => l[i]).filter (counts sug)).map (stepOf d) ++ row).reverse ++ [stepOf d l[x.val]]) := by
      simp [hcnt]
    rw [e]
    exact Kd.R_far (p := ⟨gw, 2, none⟩) hR6 (fun k hk => hk.1) _
  · refine ⟨by have := h2.1; simp; omega, fun k hk hne => (same k (Nat.lt_of_lt_of_le hk h2.1) (fun e => hne (.inl e)) ?_).trans (h2.2 k hk hne), hg6.os.trans (hB5.os.trans h2.3.1), hg6.tape.trans (hB5.tape.trans h2.3.2.1), hg6.output.trans (hB5.output.trans h2.3.2.2)⟩
    intro e
    rcases h3 with h3 | ⟨b, h3, hb⟩
    · exact hne (.inr (h3 ▸ e))
    · rw [h3] at e
      injection e with e
      omega
  · rcases hat6 with h | ⟨b, h, hb⟩
    · rw [h]; exact h3
    · exact .inr ⟨b, h, by have := h2.1; omega⟩

set_option maxRecDepth 100000 in
set_option maxHeartbeats 2000000 in
theorem below_calls (W : World) (B gw gm : Nat) (vs : Value) (dep : Int) (sug : Bool) (row : List S38) (n : Nat) (came : ByteArray → Int) (h : IsWalk W B gw gm vs dep sug row n came)
    (room : ByteArray) (d : Int) (Av : Option Addr) (nv cv : Nat) (A : Option Addr) (cap : Nat) (l : List S44) (okc : Nat → Prop) (hF : Kd.F k44 W okc A l.length l) (hokc : ∀ k, okc k → k ≠ gw ∧ k ≠ gm ∧ some k ≠ vs.ownBlock)
    (hl : row.length + l.length ≤ 1000000000000) (hd : d ≤ 1000000) (hd0 : 0 ≤ d) (hv : ∀ c ∈ l, c.f2.length ≤ 1000000000000) :
    CallsIn Fence.wide 5 Try.prog 29 #[.pointer (some ⟨gw, 0, none⟩), .agg #[.string room, .int .i64 d, .slice Av nv cv], .slice A l.length cap] W fun e W' => (∃ v, e = .returned v) ∧
      ∃ vs', IsWalk W' B gw gm vs' dep sug (belowM dep sug d l ++ row) n came ∧ Kept W W' (fun k => k = gw ∨ some k = vs.ownBlock) ∧ (vs'.ownBlock = vs.ownBlock ∨ ∃ b, vs'.ownBlock = some b ∧ W.heap.size ≤ b) := by
  obtain ⟨d0, d1, d2, d3, d4⟩ := h.cells
  have hgw : gw < W.heap.size := blk_lt h.obj
  have hgm : gm < W.heap.size := h.map.lt
  have H := Lib.hid h; clear h
  have HF := Lib.hid hF; clear hF
  refine callsIn_of_wp_marks Try.func29 rfl trivial ?_ rfl
  simp only [Try.ntmps29, List.size_toArray, List.length_cons, List.length_nil, Nat.reduceAdd, Nat.reduceSub, Array.replicate_succ, Array.replicate_zero, List.push_toArray, List.append_toArray, List.nil_append, List.cons_append]
  obtain ⟨f, hcells, hfs⟩ := child_cells HF.out
  have HC := Lib.hid hcells; clear hcells
  have HS := Lib.hid hfs; clear hfs
  by_cases hlt : d < dep
  · gi_wp2_with fail
    gi_region
    gi_wp2_with fail
    refine ⟨trivial, ((backward_in 4 A l.length cap _).mono (R' := fun e w' => e = .returned (.func (.func 51) #[] #[.pointer (some ⟨W.heap.size + 2, 0, none⟩)]) ∧ w'.heap.size = W.heap.size + 3 ∧ Below W.heap.size W w' ∧
      w'.heap[W.heap.size]? = some (.cells #[.pointer (some ⟨gw, 0, none⟩)] 52 (0, 0)) ∧ w'.heap[W.heap.size + 1]? = some (.cells #[.string room, .int .i64 d, .slice Av nv cv] 36 (0, 0)) ∧
      w'.heap[W.heap.size + 2]? = some (.cells #[.slice A l.length cap] 63 (0, 0))) ?_).mono ?_⟩
    · rintro e w' ⟨rfl, rfl⟩
      refine ⟨by simp, by simp, ?_, ?_, ?_, ?_⟩
      · exact below_alloc (below_drew (below_alloc (below_alloc (Below.refl _ _) _) _)) _
      · exact (Below.heap_alloc _ _ _ (by simp; omega)).trans ((Below.heap_alloc _ _ _ (by simp)).trans (heap_alloc_new W _))
      · exact (Below.heap_alloc _ _ _ (by simp)).trans (by have := heap_alloc_new (W.alloc (.cells #[.pointer (some ⟨gw, 0, none⟩)] 52)) (.cells #[.string room, .int .i64 d, .slice Av nv cv] 36); rw [World.size_alloc] at this; exact this)
      · exact (by simpa using heap_alloc_new (World.drew ((W.alloc _).alloc _)) _)
    · rintro e W0 ⟨rfl, hs, hB, hb1, hb2, hb3⟩
      gi_wp2_with fail
      have hb3c := (blk_cell hb3 0).trans rfl
      have hS0 : ∀ k, (k = W.heap.size + 2 ∨ (okc k ∧ k < W.heap.size)) → k < W0.heap.size := by intro k hk; omega
      have hcl : CellsOf W0 (fun k => k = W.heap.size + 2 ∨ (okc k ∧ k < W.heap.size)) A l.length f := by
        intro hp
        obtain ⟨b, off, hA, hok, hcc⟩ := HC.out hp
        have hlt : b < W.heap.size := World.block_lt_of_cell? _ _ (hcc 0 hp).1
        refine ⟨b, off, hA, .inr ⟨hok, hlt⟩, fun j hj => ?_⟩
        obtain ⟨q0, q1, q2, q3, q4⟩ := hcc j hj
        exact ⟨(hB.cell (p := ⟨b, _, none⟩) hlt).trans q0, (hB.cell (p := ⟨b, _, none⟩) hlt).trans q1, (hB.cell (p := ⟨b, _, none⟩) hlt).trans q2, (hB.cell (p := ⟨b, _, none⟩) hlt).trans q3, (hB.cell (p := ⟨b, _, none⟩) hlt).trans q4⟩
      have I0 := H.out.below hB
      have HB0 := Lib.hid hB
      have HSZ := Lib.hid hs
      refine wpIn_rangeFunc_ownH rfl (by omega) (gf := 51) (lb := #[.pointer (some ⟨W.heap.size + 2, 0, none⟩)]) rfl trivial (enters_of Try.func51 (by kernel_rfl) rfl)
        (backward_stops 4 (by omega) (W.heap.size + 2) _ A l.length cap f (by omega) W0 (.inl rfl) hS0 hb3c hcl)
        (fun h1 h2 => Kp.trans h1 h2) (fun W1 r o o' hr _ _ _ => fun k hk => World.putObj_heap_other (by have := hS0 k hk; omega)) (Below.refl _ _) (fun _ => rfl)
        (fun pre W1 => BI W0 B gw gm vs dep sug row n came l d pre W1) (fun _ _ _ => False) ?hI (fun _ _ _ _ _ hf _ _ => hf) ?h0
        (fun x a' W1 => ∃ Bx, W0.heap.size ≤ Bx ∧ W1.heap[Bx]? = some (.cells #[(f x.val).1, (f x.val).2.1, (f x.val).2.2.1, (f x.val).2.2.2.1, (f x.val).2.2.2.2] 66 (0, 0)) ∧ a' = { tmps := #[.pointer (some ⟨gw, 0, none⟩), .agg #[.string room, .int .i64 d, .slice Av nv cv], .slice A l.length cap, .pointer (some ⟨W.heap.size, 0, none⟩), .pointer (some ⟨W.heap.size + 1, 0, none⟩), undef, undef, .pointer (some ⟨Bx, 0, none⟩), .pointer (some ⟨W.heap.size + 1, 1, none⟩), .int .i64 d, .pointer (some ⟨gw, 0, none⟩), .pointer (some ⟨gw, 0, none⟩), .pointer (some ⟨gw, 0, none⟩), .int .i64 dep, .bool (decide (dep ≤ d)), .slice A l.length cap, .func (.func 51) #[] #[.pointer (some ⟨W.heap.size + 2, 0, none⟩)], .int .i64 (x.val : Int), .agg #[(f x.val).1, (f x.val).2.1, (f x.val).2.2.1, (f x.val).2.2.2.1, (f x.val).2.2.2.2], undef, undef, undef, undef, undef, undef, undef, undef, undef, undef, undef, undef, undef, undef, undef, undef, undef, undef, undef, undef, undef, undef, undef, undef, undef, undef, undef], defers := [] }) ?hAx ?assign ?body ?done ?stop
      case hI => exact fun pre X Y rw_ hs hg hr => BI.own hs hg hr
      case h0 => exact ⟨vs, I0, ⟨Nat.le_refl _, fun _ _ _ => rfl, rfl, rfl, rfl⟩, .inl rfl⟩
      case hAx =>
        rintro x a' _ X Y rw_ ⟨Bx, q1, q2, q3⟩ hg hr
        refine ⟨Bx, q1, (hg.block Bx (blk_lt q2) ?_).trans q2, q3⟩
        rintro e
        obtain ⟨_, o, ho, hc⟩ := hr Bx e.symm
        rw [q2] at ho
        injection ho with ho
        subst ho
        cases hc
      case assign =>
        intro r pre x W1 K hi hK
        obtain ⟨A2, c2, hfx, hF2, hc2⟩ := HS.out x.val x.isLt
        rw [hfx] at hK ⊢
        have HF2 := Lib.hid hF2; clear hF2 hfx
        have HK := Lib.hid hK; clear hK
        have HI := Lib.hid hi; clear hi
        dsimp only
        gi_wp2
        refine HK.out _ _ ((KeepsOthers.alloc _ _).from _) (fun k hk => Below.heap_alloc _ _ k ?_) (HI.out.own (World.grownBy_alloc _ _ none) (by simp)) ⟨W1.heap.size, ?_, by simpa using heap_alloc_new W1 _, rfl⟩
        · obtain ⟨_, _, h2, _⟩ := HI.out
          have := h2.1
          have := HB0.out.size
          omega
        · obtain ⟨_, _, h2, _⟩ := HI.out
          exact h2.1
      case body =>
        rintro r pre x a' W1 hr ⟨rec, hrec⟩ hI ⟨Bx, hBx, hbx, rfl⟩ hlen
        obtain ⟨A2, c2, hfx, hF2, hc2⟩ := HS.out x.val x.isLt
        rw [hfx] at hbx ⊢
        have HF2 := Lib.hid hF2; clear hF2 hfx
        dsimp only at hbx ⊢
        obtain ⟨vs', h1, h2, h3⟩ := hI
        have b0 := (blk_cell hbx 0).trans rfl
        have b2 := (blk_cell hbx 2).trans rfl
        have b3 := (blk_cell hbx 3).trans rfl
        have hne : ∀ k, W.heap.size ≤ k → ¬ (k = gw ∨ some k = vs.ownBlock) := by
          intro k hk
          rintro (e | e)
          · omega
          · have := Kd.R_lt H.out.stack k e.symm
            omega
        have hlW1 : W0.heap.size ≤ W1.heap.size := h2.1
        have e1 : W1.cell? ⟨W.heap.size, 0, none⟩ = some (.pointer (some ⟨gw, 0, none⟩)) := (World.cell?_of_block (h2.2 W.heap.size (by omega) (hne W.heap.size (Nat.le_refl _)))).trans ((blk_cell hb1 0).trans rfl)
        have e2 : W1.cell? ⟨W.heap.size + 1, 1, none⟩ = some (.int .i64 d) := (World.cell?_of_block (h2.2 (W.heap.size + 1) (by omega) (hne (W.heap.size + 1) (by omega)))).trans ((blk_cell hb2 1).trans rfl)
        obtain ⟨w0, w1, w2, w3, w4⟩ := h1.cells
        have HN := Lib.hid hne; clear hne
        have H1 := Lib.hid h1; have H2 := Lib.hid h2; have H3 := Lib.hid h3; clear h1 h2 h3
        have HBX := Lib.hid hbx; clear hbx
        have HREC := Lib.hid hrec; clear hrec
        have HCELL := Lib.hid hcl; clear hcl
        have HI0 := Lib.hid I0; clear I0
        clear hb1 hb2 hb3 hS0
        have hlr : ((((pre.reverse.map fun i => l[i]).filter (counts sug)).map (stepOf d) ++ row).length) ≤ row.length + l.length := by
          rw [List.length_append, List.length_map]
          have := List.length_filter_le (counts sug) (pre.reverse.map fun i => l[i])
          rw [List.length_map, List.length_reverse] at this
          omega
        have n1 : some W.heap.size ≠ vs'.ownBlock := by
          intro e
          rcases H3.out with h3 | ⟨b, h3, hb⟩
          · have := Kd.R_lt H.out.stack _ (h3 ▸ e.symm); omega
          · rw [h3] at e; injection e; omega
        have n2 : some (W.heap.size + 1) ≠ vs'.ownBlock := by
          intro e
          rcases H3.out with h3 | ⟨b, h3, hb⟩
          · have := Kd.R_lt H.out.stack _ (h3 ▸ e.symm); omega
          · rw [h3] at e; injection e; omega
        have n3 : some Bx ≠ vs'.ownBlock := Kd.R_ne H1.out.stack HBX.out (by decide)
        have n5 : some gw ≠ vs'.ownBlock := Kd.R_ne H1.out.stack H1.out.obj (by decide)
        have NS := Lib.hid (And.intro n1 (And.intro n2 (And.intro n3 n5))); clear n1 n2 n3 n5
        have HLR := Lib.hid hlr; clear hlr
        have HF3 : Hid (Kd.F Kd.string W1.drew okc A2 l[x.val].f2.length l[x.val].f2) := Lib.hid (Kd.F_step HF2.out (fun k hk hlt => (H2.out.2 k (by have := HB0.out.size; omega) (by rintro (e | e); exact (hokc k hk).1 e; exact (hokc k hk).2.2 e)).trans (HB0.out.block k hlt)))
        cases hs3 : (l[x.val]).f3
        · rw [hs3] at b3
          cases sug
          · gi_wp2
            have hS5 : (fun w' : World => w'.cell? ⟨W.heap.size, 0, none⟩ = some (.pointer (some ⟨gw, 0, none⟩)) ∧ w'.cell? ⟨W.heap.size + 1, 1, none⟩ = some (.int .i64 d) ∧ w'.cell? ⟨Bx, 0, none⟩ = some (.string l[x.val].f0) ∧ w'.cell? ⟨Bx, 2, none⟩ = some (.slice A2 l[x.val].f2.length c2) ∧ w'.cell? ⟨gw, 2, none⟩ = some vs') W1.drew := ⟨e1, e2, b0, b2, w2⟩
            have hwr : IntKind.i64.wrap (d + 1) = d + 1 := IntWalk.i64_in _ (by omega)
            refine start_in (S := fun w' : World => w'.cell? ⟨W.heap.size, 0, none⟩ = some (.pointer (some ⟨gw, 0, none⟩)) ∧ w'.cell? ⟨W.heap.size + 1, 1, none⟩ = some (.int .i64 d) ∧ w'.cell? ⟨Bx, 0, none⟩ = some (.string l[x.val].f0) ∧ w'.cell? ⟨Bx, 2, none⟩ = some (.slice A2 l[x.val].f2.length c2) ∧ w'.cell? ⟨gw, 2, none⟩ = some vs') (ds := [18]) #[false, false, false, false, false, false, false, false, false, false, false, false, false, false, false, false, false, false, false] (by kernel_rfl) (by kernel_rfl) ?hQ rfl rfl hS5 (fun hHeld => ?_)
            case hQ => (rintro ⟨a, w, h⟩; exact h)
            refine take_ (i := 0) (oi := { dst := some 28, op := Go.Op.load 52 (Go.Operand.tmp 3), type := 52, pos := "walk.go:69", after := #[], guard := none }) (v := ?v0_) #[true, false, false, false, false, false, false, false, false, false, false, false, false, false, false, false, false, false, false] rfl rfl (by kernel_rfl) (fun _ _ _ h => h) (Or.inl ⟨by rfl, ?hy0_⟩) (by assumption) rfl ?rest0_
            case hy0_ => (intro w hSw; (try dsimp only at hSw); go_simp; (first | done | with_reducible rfl))
            (try simp only [Act.put, List.setIfInBounds_toArray, List.set_cons_zero, List.set_cons_succ])
            refine take_ (i := 1) (oi := { dst := some 29, op := Go.Op.load 52 (Go.Operand.tmp 3), type := 52, pos := "walk.go:69", after := #[], guard := none }) (v := ?v1_) #[true, true, false, false, false, false, false, false, false, false, false, false, false, false, false, false, false, false, false] rfl rfl (by kernel_rfl) (fun _ _ _ h => h) (Or.inl ⟨by rfl, ?hy1_⟩) (by assumption) rfl ?rest1_
            case hy1_ => (intro w hSw; (try dsimp only at hSw); go_simp; (first | done | with_reducible rfl))
            (try simp only [Act.put, List.setIfInBounds_toArray, List.set_cons_zero, List.set_cons_succ])
            refine take_ (i := 2) (oi := { dst := some 30, op := Go.Op.nilCheck (Go.Operand.tmp 29), type := 0, pos := "walk.go:69", after := #[{ on := 1, ground := Go.Ground.data }], guard := none }) (v := ?v2_) #[true, true, true, false, false, false, false, false, false, false, false, false, false, false, false, false, false, false, false] rfl rfl (by kernel_rfl) (fun _ _ _ h => h) (Or.inl ⟨by rfl, ?hy2_⟩) (by assumption) rfl ?rest2_
            case hy2_ => (intro w hSw; (try dsimp only at hSw); go_simp; (first | done | with_reducible rfl))
            (try simp only [Act.put, List.setIfInBounds_toArray, List.set_cons_zero, List.set_cons_succ])
            refine take_ (i := 3) (oi := { dst := some 31, op := Go.Op.fieldAddr 82 (Go.Operand.tmp 30) 2, type := 0, pos := "walk.go:69", after := #[{ on := 2, ground := Go.Ground.data }], guard := none }) (v := ?v3_) #[true, true, true, true, false, false, false, false, false, false, false, false, false, false, false, false, false, false, false] rfl rfl (by kernel_rfl) (fun _ _ _ h => h) (Or.inl ⟨by rfl, ?hy3_⟩) (by assumption) rfl ?rest3_
            case hy3_ => (intro w hSw; (try dsimp only at hSw); go_simp; (first | done | with_reducible rfl))
            (try simp only [Act.put, List.setIfInBounds_toArray, List.set_cons_zero, List.set_cons_succ])
            refine take_ (i := 4) (oi := { dst := some 32, op := Go.Op.load 27 (Go.Operand.tmp 31), type := 27, pos := "walk.go:69", after := #[{ on := 3, ground := Go.Ground.data }], guard := none }) (v := ?v4_) #[true, true, true, true, true, false, false, false, false, false, false, false, false, false, false, false, false, false, false] rfl rfl (by kernel_rfl) (fun _ _ _ h => h) (Or.inl ⟨by rfl, ?hy4_⟩) (by assumption) rfl ?rest4_
            case hy4_ => (intro w hSw; (try dsimp only at hSw); go_simp; (first | done | with_reducible rfl))
            (try simp only [Act.put, List.setIfInBounds_toArray, List.set_cons_zero, List.set_cons_succ])
            refine take_ (i := 5) (oi := { dst := some 33, op := Go.Op.fieldAddr 66 (Go.Operand.tmp 7) 0, type := 0, pos := "walk.go:69", after := #[], guard := none }) (v := ?v5_) #[true, true, true, true, true, true, false, false, false, false, false, false, false, false, false, false, false, false, false] rfl rfl (by kernel_rfl) (fun _ _ _ h => h) (Or.inl ⟨by rfl, ?hy5_⟩) (by assumption) rfl ?rest5_
            case hy5_ => (intro w hSw; (try dsimp only at hSw); go_simp; (first | done | with_reducible rfl))
            (try simp only [Act.put, List.setIfInBounds_toArray, List.set_cons_zero, List.set_cons_succ])
            refine take_ (i := 6) (oi := { dst := some 34, op := Go.Op.load 9 (Go.Operand.tmp 33), type := 9, pos := "walk.go:69", after := #[{ on := 5, ground := Go.Ground.data }], guard := none }) (v := ?v6_) #[true, true, true, true, true, true, true, false, false, false, false, false, false, false, false, false, false, false, false] rfl rfl (by kernel_rfl) (fun _ _ _ h => h) (Or.inl ⟨by rfl, ?hy6_⟩) (by assumption) rfl ?rest6_
            case hy6_ => (intro w hSw; (try dsimp only at hSw); go_simp; (first | done | with_reducible rfl))
            (try simp only [Act.put, List.setIfInBounds_toArray, List.set_cons_zero, List.set_cons_succ])
            refine take_ (i := 7) (oi := { dst := some 35, op := Go.Op.fieldAddr 36 (Go.Operand.tmp 4) 1, type := 0, pos := "walk.go:69", after := #[], guard := none }) (v := ?v7_) #[true, true, true, true, true, true, true, true, false, false, false, false, false, false, false, false, false, false, false] rfl rfl (by kernel_rfl) (fun _ _ _ h => h) (Or.inl ⟨by rfl, ?hy7_⟩) (by assumption) rfl ?rest7_
            case hy7_ => (intro w hSw; (try dsimp only at hSw); go_simp; (first | done | with_reducible rfl))
            (try simp only [Act.put, List.setIfInBounds_toArray, List.set_cons_zero, List.set_cons_succ])
            refine take_ (i := 8) (oi := { dst := some 36, op := Go.Op.load 3 (Go.Operand.tmp 35), type := 3, pos := "walk.go:69", after := #[{ on := 7, ground := Go.Ground.data }], guard := none }) (v := ?v8_) #[true, true, true, true, true, true, true, true, true, false, false, false, false, false, false, false, false, false, false] rfl rfl (by kernel_rfl) (fun _ _ _ h => h) (Or.inl ⟨by rfl, ?hy8_⟩) (by assumption) rfl ?rest8_
            case hy8_ => (intro w hSw; (try dsimp only at hSw); go_simp; (first | done | with_reducible rfl))
            (try simp only [Act.put, List.setIfInBounds_toArray, List.set_cons_zero, List.set_cons_succ])
            refine take_ (i := 9) (oi := { dst := some 37, op := Go.Op.binOp Go.BinOp.add 3 (Go.Operand.tmp 36) (Go.Operand.const (Go.Value.int Go.IntKind.i64 1)) 3, type := 3, pos := "walk.go:69", after := #[{ on := 8, ground := Go.Ground.data }], guard := none }) (v := ?v9_) #[true, true, true, true, true, true, true, true, true, true, false, false, false, false, false, false, false, false, false] rfl rfl (by kernel_rfl) (fun _ _ _ h => h) (Or.inl ⟨by rfl, ?hy9_⟩) (by assumption) rfl ?rest9_
            case hy9_ => (intro w hSw; (try dsimp only at hSw); go_simp; (first | done | with_reducible rfl))
            (try simp only [Act.put, List.setIfInBounds_toArray, List.set_cons_zero, List.set_cons_succ])
            refine take_ (i := 10) (oi := { dst := some 38, op := Go.Op.fieldAddr 66 (Go.Operand.tmp 7) 2, type := 0, pos := "walk.go:69", after := #[], guard := none }) (v := ?v10_) #[true, true, true, true, true, true, true, true, true, true, true, false, false, false, false, false, false, false, false] rfl rfl (by kernel_rfl) (fun _ _ _ h => h) (Or.inl ⟨by rfl, ?hy10_⟩) (by assumption) rfl ?rest10_
            case hy10_ => (intro w hSw; (try dsimp only at hSw); go_simp; (first | done | with_reducible rfl))
            (try simp only [Act.put, List.setIfInBounds_toArray, List.set_cons_zero, List.set_cons_succ])
            refine take_ (i := 11) (oi := { dst := some 39, op := Go.Op.load 34 (Go.Operand.tmp 38), type := 34, pos := "walk.go:69", after := #[{ on := 10, ground := Go.Ground.data }], guard := none }) (v := ?v11_) #[true, true, true, true, true, true, true, true, true, true, true, true, false, false, false, false, false, false, false] rfl rfl (by kernel_rfl) (fun _ _ _ h => h) (Or.inl ⟨by rfl, ?hy11_⟩) (by assumption) rfl ?rest11_
            case hy11_ => (intro w hSw; (try dsimp only at hSw); go_simp; (first | done | with_reducible rfl))
            (try simp only [Act.put, List.setIfInBounds_toArray, List.set_cons_zero, List.set_cons_succ])
            refine one_ (i := 12) (oi := { dst := some 40, op := Go.Op.call { callee := Go.Callee.value (Go.Operand.func 28), args := #[Go.Operand.tmp 39], argTypes := #[34] }, type := 34, pos := "walk.go:69", after := #[{ on := 11, ground := Go.Ground.data }], guard := none }) #[true, true, true, true, true, true, true, true, true, true, true, true, true, false, false, false, false, false, false] rfl rfl (by kernel_rfl) (by decide) (fun K hK => ?_)
            go_simp
            refine (clone_str A2 c2 _ _ (Kd.F_now HF3.out) (by have := hv l[x.val] (List.getElem_mem _); omega)).mono ?_
            rintro e w5 ⟨v5, rfl, hR5, hB5⟩
            obtain ⟨A5, c5, rfl⟩ := Kd.R_slice hR5
            have s1 : w5.cell? ⟨W.heap.size, 0, none⟩ = some (.pointer (some ⟨gw, 0, none⟩)) := pw_cell_below hB5 e1
            have s2 : w5.cell? ⟨W.heap.size + 1, 1, none⟩ = some (.int .i64 d) := pw_cell_below hB5 e2
            have s3 : w5.cell? ⟨Bx, 0, none⟩ = some (.string l[x.val].f0) := pw_cell_below hB5 b0
            have s4 : w5.cell? ⟨Bx, 2, none⟩ = some (.slice A2 l[x.val].f2.length c2) := pw_cell_below hB5 b2
            have s5 : w5.cell? ⟨gw, 2, none⟩ = some vs' := pw_cell_below hB5 w2
            have HR5 := Lib.hid hR5; clear hR5
            have HB5 := Lib.hid hB5; clear hB5
            refine hK.out _ _ ⟨s1, s2, s3, s4, s5⟩ (fun hHeld2 => ?_)
            clear hK K hHeld
            (try simp only [Act.put, List.setIfInBounds_toArray, List.set_cons_zero, List.set_cons_succ])
            refine take_ (i := 13) (oi := { dst := some 41, op := Go.Op.build 36 #[(0, Go.Operand.tmp 34), (1, Go.Operand.tmp 37), (2, Go.Operand.tmp 40)], type := 36, pos := "walk.go:69", after := #[{ on := 6, ground := Go.Ground.data }, { on := 9, ground := Go.Ground.data }, { on := 12, ground := Go.Ground.data }], guard := none }) (v := ?v13_) #[true, true, true, true, true, true, true, true, true, true, true, true, true, true, false, false, false, false, false] rfl rfl (by kernel_rfl) (fun _ _ _ h => h) (Or.inl ⟨by rfl, ?hy13_⟩) hHeld2 rfl ?rest13_
            case hy13_ => (intro w hSw; (try dsimp only at hSw); go_simp; (first | done | with_reducible rfl))
            (try simp only [Act.put, List.setIfInBounds_toArray, List.set_cons_zero, List.set_cons_succ])
            refine one_ (i := 14) (oi := { dst := some 42, op := Go.Op.buildSlice 27 1 #[(0, Go.Operand.tmp 41)], type := 27, pos := "walk.go:69", after := #[{ on := 13, ground := Go.Ground.data }], guard := none }) #[true, true, true, true, true, true, true, true, true, true, true, true, true, true, true, false, false, false, false] rfl rfl (by kernel_rfl) (by decide) (fun K hK => ?_)
            go_simp
            refine hK.out _ _ ⟨by rw [World.cell?_alloc_lt _ _ _ (World.block_lt_of_cell? _ _ s1)]; exact s1, by rw [World.cell?_alloc_lt _ _ _ (World.block_lt_of_cell? _ _ s2)]; exact s2, by rw [World.cell?_alloc_lt _ _ _ (World.block_lt_of_cell? _ _ s3)]; exact s3, by rw [World.cell?_alloc_lt _ _ _ (World.block_lt_of_cell? _ _ s4)]; exact s4, by rw [World.cell?_alloc_lt _ _ _ (World.block_lt_of_cell? _ _ s5)]; exact s5⟩ (fun hHeld3 => ?_)
            clear hK K
            (try simp only [Act.put, List.setIfInBounds_toArray, List.set_cons_zero, List.set_cons_succ])
            refine one_ (i := 15) (oi := { dst := some 43, op := Go.Op.call { callee := Go.Callee.builtin Go.Builtin.append, args := #[Go.Operand.tmp 32, Go.Operand.tmp 42], argTypes := #[27, 27] }, type := 27, pos := "walk.go:69", after := #[{ on := 4, ground := Go.Ground.data }, { on := 14, ground := Go.Ground.data }, { on := 12, ground := Go.Ground.chain }], guard := none }) #[true, true, true, true, true, true, true, true, true, true, true, true, true, true, true, true, false, false, false] rfl rfl (by kernel_rfl) (by decide) (fun K hK => ?_)
            have h5 := (H1.out.drewN 1).below HB5.out
            have hM5 : k38.M w5 B (fun k => W1.heap.size ≤ k) (stepOf d l[x.val]) [.string l[x.val].f0, .int .i64 (d + 1), .slice A5 l[x.val].f2.length c5] :=
              k38_mkM w5 B _ (stepOf d l[x.val]) (Kd.R_lower (Kd.R_mono (Kd.R_bound HR5.out) (fun k hk => hk.2.1)) (by have := H1.out.base.1; have := blk_lt H1.out.obj; show B ≤ W1.heap.size; omega))
            refine Kd.R_append_step k38 (w0 := w5) B (by rfl) (.tmp 32) (.tmp 42) 27 36 (.agg #[.string ⟨#[]⟩, .int .i64 0, .slice none 0 0]) 48 rfl Try.underlying27 info36 rfl (by decide) (by decide) vs' _ (stepOf d l[x.val]) _ (okW gw gm) (fun k => W1.heap.size ≤ k) rfl rfl hM5 ?hokp ?hfresh h5.stack (Below.refl _ _) (by have := h5.base.1; have := blk_lt h5.obj; omega) (by have := HLR.out; rw [List.length_reverse]; omega) ?happ
            case hokp =>
              intro k hk
              have q1 := blk_lt H1.out.obj
              have q2 := H1.out.map.lt
              refine ⟨⟨by omega, by omega⟩, fun e => ?_⟩
              have := Kd.R_lt H1.out.stack k e.symm
              omega
            case hfresh =>
              intro k hk
              have q1 := blk_lt h5.obj
              have q2 := h5.map.lt
              exact ⟨by omega, by omega⟩
            case happ =>
              intro v1 w6 hR6 _ hg6 hat6
              obtain ⟨A6, n6, c6, rfl⟩ : ∃ A n c, v1 = .slice A n c := ⟨_, _, _, (Kd.R_slice hR6).choose_spec.choose_spec⟩
              have far : ∀ (p : Addr) (v : Value), w5.cell? p = some v → some p.block ≠ vs'.ownBlock → w6.cell? p = some v := fun p v hp hne => (World.cell?_of_block (hg6.block _ (World.block_lt_of_cell? _ _ hp) hne)).trans hp
              have o6 : w6.heap[gw]? = some (.cells #[.int .i64 dep, .bool _, vs', .map (some gm)] 82 (0, 0)) := (hg6.block gw (blk_lt h5.obj) NS.out.2.2.2).trans h5.obj
              have m6 := h5.map.step (hg6.block gm h5.map.lt (fun e => (h5.stack.1 gm e.symm).2 rfl))
              have f6 : w6.frozen? ⟨gw, 2, none⟩ = false := by simp [World.frozen?, o6]
              have t5 := far _ _ s5 NS.out.2.2.2
              have H5 := Lib.hid h5; clear h5
              have O6 := Lib.hid o6; clear o6
              have M6 := Lib.hid m6; clear m6
              have HR6 := Lib.hid hR6; clear hR6
              have HG6 := Lib.hid hg6; clear hg6
              have HAT6 := Lib.hid hat6; clear hat6
              refine hK.out _ _ ⟨far _ _ s1 NS.out.1, far _ _ s2 NS.out.2.1, far _ _ s3 NS.out.2.2.1, far _ _ s4 NS.out.2.2.1, t5⟩ (fun hHeld4 => ?_)
              clear hK K far
              (try simp only [Act.put, List.setIfInBounds_toArray, List.set_cons_zero, List.set_cons_succ])
              refine take_ (i := 16) (oi := { dst := some 44, op := Go.Op.nilCheck (Go.Operand.tmp 28), type := 0, pos := "walk.go:69", after := #[{ on := 0, ground := Go.Ground.data }, { on := 0, ground := Go.Ground.phase }, { on := 1, ground := Go.Ground.phase }, { on := 2, ground := Go.Ground.phase }, { on := 3, ground := Go.Ground.phase }, { on := 4, ground := Go.Ground.phase }, { on := 5, ground := Go.Ground.phase }, { on := 6, ground := Go.Ground.phase }, { on := 7, ground := Go.Ground.phase }, { on := 8, ground := Go.Ground.phase }, { on := 9, ground := Go.Ground.phase }, { on := 10, ground := Go.Ground.phase }, { on := 11, ground := Go.Ground.phase }, { on := 12, ground := Go.Ground.phase }, { on := 13, ground := Go.Ground.phase }, { on := 14, ground := Go.Ground.phase }, { on := 15, ground := Go.Ground.phase }], guard := none }) (v := ?v16_) #[true, true, true, true, true, true, true, true, true, true, true, true, true, true, true, true, true, false, false] rfl rfl (by kernel_rfl) (fun _ _ _ h => h) (Or.inl ⟨by rfl, ?hy16_⟩) hHeld4 rfl ?rest16_
              case hy16_ => (intro w hSw; (try dsimp only at hSw); go_simp; (first | done | with_reducible rfl))
              (try simp only [Act.put, List.setIfInBounds_toArray, List.set_cons_zero, List.set_cons_succ])
              refine take_ (i := 17) (oi := { dst := some 45, op := Go.Op.fieldAddr 82 (Go.Operand.tmp 44) 2, type := 0, pos := "walk.go:69", after := #[{ on := 16, ground := Go.Ground.data }, { on := 0, ground := Go.Ground.phase }, { on := 1, ground := Go.Ground.phase }, { on := 2, ground := Go.Ground.phase }, { on := 3, ground := Go.Ground.phase }, { on := 4, ground := Go.Ground.phase }, { on := 5, ground := Go.Ground.phase }, { on := 6, ground := Go.Ground.phase }, { on := 7, ground := Go.Ground.phase }, { on := 8, ground := Go.Ground.phase }, { on := 9, ground := Go.Ground.phase }, { on := 10, ground := Go.Ground.phase }, { on := 11, ground := Go.Ground.phase }, { on := 12, ground := Go.Ground.phase }, { on := 13, ground := Go.Ground.phase }, { on := 14, ground := Go.Ground.phase }, { on := 15, ground := Go.Ground.phase }], guard := none }) (v := ?v17_) #[true, true, true, true, true, true, true, true, true, true, true, true, true, true, true, true, true, true, false] rfl rfl (by kernel_rfl) (fun _ _ _ h => h) (Or.inl ⟨by rfl, ?hy17_⟩) hHeld4 rfl ?rest17_
              case hy17_ => (intro w hSw; (try dsimp only at hSw); go_simp; (first | done | with_reducible rfl))
              (try simp only [Act.put, List.setIfInBounds_toArray, List.set_cons_zero, List.set_cons_succ])
              refine last_ (i := 18) (oi := { dst := none, op := Go.Op.store 27 (Go.Operand.tmp 45) (Go.Operand.tmp 43), type := 0, pos := "walk.go:69", after := #[{ on := 17, ground := Go.Ground.data }, { on := 15, ground := Go.Ground.data }, { on := 15, ground := Go.Ground.chain }, { on := 0, ground := Go.Ground.phase }, { on := 1, ground := Go.Ground.phase }, { on := 2, ground := Go.Ground.phase }, { on := 3, ground := Go.Ground.phase }, { on := 4, ground := Go.Ground.phase }, { on := 5, ground := Go.Ground.phase }, { on := 6, ground := Go.Ground.phase }, { on := 7, ground := Go.Ground.phase }, { on := 8, ground := Go.Ground.phase }, { on := 9, ground := Go.Ground.phase }, { on := 10, ground := Go.Ground.phase }, { on := 11, ground := Go.Ground.phase }, { on := 12, ground := Go.Ground.phase }, { on := 13, ground := Go.Ground.phase }, { on := 14, ground := Go.Ground.phase }, { on := 15, ground := Go.Ground.phase }], guard := none }) #[true, true, true, true, true, true, true, true, true, true, true, true, true, true, true, true, true, true, true] rfl rfl (by kernel_rfl) (by decide) (fun K hK => ?_)
              go_simp
              refine hK.out _ _ ?_
              clear hK K
              refine done_ (by kernel_rfl) ?_
              exact push_done W0 W1 w5 w6 B gw gm vs vs' A6 c6 dep _ row n came l d pre x okc W.heap.size HB0.out (fun k hk => hokc k hk) H.out.stack H1.out H2.out H3.out HB5.out (by simp [counts, hs3]) H5.out O6.out M6.out HR6.out HG6.out HAT6.out NS.out.2.2.2 HSZ.out hgw
              
          · gi_wp2
            refine (show _ ∧ _ ∧ _ from ⟨KeepsFrom.refl _ _, Kp.refl _ _, vs', ?_, H2.out, H3.out⟩)
            have e : ((((pre ++ [x]).reverse.map fun i => l[i]).filter (counts true)).map (stepOf d) ++ row) = (((pre.reverse.map fun i => l[i]).filter (counts true)).map (stepOf d) ++ row) := by
              simp [counts, hs3]
            rw [e]
            exact H1.out
        · rw [hs3] at b3
          gi_wp2
          have hS5 : (fun w' : World => w'.cell? ⟨W.heap.size, 0, none⟩ = some (.pointer (some ⟨gw, 0, none⟩)) ∧ w'.cell? ⟨W.heap.size + 1, 1, none⟩ = some (.int .i64 d) ∧ w'.cell? ⟨Bx, 0, none⟩ = some (.string l[x.val].f0) ∧ w'.cell? ⟨Bx, 2, none⟩ = some (.slice A2 l[x.val].f2.length c2) ∧ w'.cell? ⟨gw, 2, none⟩ = some vs') W1.drew := ⟨e1, e2, b0, b2, w2⟩
          have hwr : IntKind.i64.wrap (d + 1) = d + 1 := IntWalk.i64_in _ (by omega)
          refine start_in (S := fun w' : World => w'.cell? ⟨W.heap.size, 0, none⟩ = some (.pointer (some ⟨gw, 0, none⟩)) ∧ w'.cell? ⟨W.heap.size + 1, 1, none⟩ = some (.int .i64 d) ∧ w'.cell? ⟨Bx, 0, none⟩ = some (.string l[x.val].f0) ∧ w'.cell? ⟨Bx, 2, none⟩ = some (.slice A2 l[x.val].f2.length c2) ∧ w'.cell? ⟨gw, 2, none⟩ = some vs') (ds := [18]) #[false, false, false, false, false, false, false, false, false, false, false, false, false, false, false, false, false, false, false] (by kernel_rfl) (by kernel_rfl) ?hQb rfl rfl hS5 (fun hHeld => ?_)
          case hQb => (rintro ⟨a, w, h⟩; exact h)
          refine take_ (i := 0) (oi := { dst := some 28, op := Go.Op.load 52 (Go.Operand.tmp 3), type := 52, pos := "walk.go:69", after := #[], guard := none }) (v := ?v0_b) #[true, false, false, false, false, false, false, false, false, false, false, false, false, false, false, false, false, false, false] rfl rfl (by kernel_rfl) (fun _ _ _ h => h) (Or.inl ⟨by rfl, ?hy0_b⟩) (by assumption) rfl ?rest0_b
          case hy0_b => (intro w hSw; (try dsimp only at hSw); go_simp; (first | done | with_reducible rfl))
          (try simp only [Act.put, List.setIfInBounds_toArray, List.set_cons_zero, List.set_cons_succ])
          refine take_ (i := 1) (oi := { dst := some 29, op := Go.Op.load 52 (Go.Operand.tmp 3), type := 52, pos := "walk.go:69", after := #[], guard := none }) (v := ?v1_b) #[true, true, false, false, false, false, false, false, false, false, false, false, false, false, false, false, false, false, false] rfl rfl (by kernel_rfl) (fun _ _ _ h => h) (Or.inl ⟨by rfl, ?hy1_b⟩) (by assumption) rfl ?rest1_b
          case hy1_b => (intro w hSw; (try dsimp only at hSw); go_simp; (first | done | with_reducible rfl))
          (try simp only [Act.put, List.setIfInBounds_toArray, List.set_cons_zero, List.set_cons_succ])
          refine take_ (i := 2) (oi := { dst := some 30, op := Go.Op.nilCheck (Go.Operand.tmp 29), type := 0, pos := "walk.go:69", after := #[{ on := 1, ground := Go.Ground.data }], guard := none }) (v := ?v2_b) #[true, true, true, false, false, false, false, false, false, false, false, false, false, false, false, false, false, false, false] rfl rfl (by kernel_rfl) (fun _ _ _ h => h) (Or.inl ⟨by rfl, ?hy2_b⟩) (by assumption) rfl ?rest2_b
          case hy2_b => (intro w hSw; (try dsimp only at hSw); go_simp; (first | done | with_reducible rfl))
          (try simp only [Act.put, List.setIfInBounds_toArray, List.set_cons_zero, List.set_cons_succ])
          refine take_ (i := 3) (oi := { dst := some 31, op := Go.Op.fieldAddr 82 (Go.Operand.tmp 30) 2, type := 0, pos := "walk.go:69", after := #[{ on := 2, ground := Go.Ground.data }], guard := none }) (v := ?v3_b) #[true, true, true, true, false, false, false, false, false, false, false, false, false, false, false, false, false, false, false] rfl rfl (by kernel_rfl) (fun _ _ _ h => h) (Or.inl ⟨by rfl, ?hy3_b⟩) (by assumption) rfl ?rest3_b
          case hy3_b => (intro w hSw; (try dsimp only at hSw); go_simp; (first | done | with_reducible rfl))
          (try simp only [Act.put, List.setIfInBounds_toArray, List.set_cons_zero, List.set_cons_succ])
          refine take_ (i := 4) (oi := { dst := some 32, op := Go.Op.load 27 (Go.Operand.tmp 31), type := 27, pos := "walk.go:69", after := #[{ on := 3, ground := Go.Ground.data }], guard := none }) (v := ?v4_b) #[true, true, true, true, true, false, false, false, false, false, false, false, false, false, false, false, false, false, false] rfl rfl (by kernel_rfl) (fun _ _ _ h => h) (Or.inl ⟨by rfl, ?hy4_b⟩) (by assumption) rfl ?rest4_b
          case hy4_b => (intro w hSw; (try dsimp only at hSw); go_simp; (first | done | with_reducible rfl))
          (try simp only [Act.put, List.setIfInBounds_toArray, List.set_cons_zero, List.set_cons_succ])
          refine take_ (i := 5) (oi := { dst := some 33, op := Go.Op.fieldAddr 66 (Go.Operand.tmp 7) 0, type := 0, pos := "walk.go:69", after := #[], guard := none }) (v := ?v5_b) #[true, true, true, true, true, true, false, false, false, false, false, false, false, false, false, false, false, false, false] rfl rfl (by kernel_rfl) (fun _ _ _ h => h) (Or.inl ⟨by rfl, ?hy5_b⟩) (by assumption) rfl ?rest5_b
          case hy5_b => (intro w hSw; (try dsimp only at hSw); go_simp; (first | done | with_reducible rfl))
          (try simp only [Act.put, List.setIfInBounds_toArray, List.set_cons_zero, List.set_cons_succ])
          refine take_ (i := 6) (oi := { dst := some 34, op := Go.Op.load 9 (Go.Operand.tmp 33), type := 9, pos := "walk.go:69", after := #[{ on := 5, ground := Go.Ground.data }], guard := none }) (v := ?v6_b) #[true, true, true, true, true, true, true, false, false, false, false, false, false, false, false, false, false, false, false] rfl rfl (by kernel_rfl) (fun _ _ _ h => h) (Or.inl ⟨by rfl, ?hy6_b⟩) (by assumption) rfl ?rest6_b
          case hy6_b => (intro w hSw; (try dsimp only at hSw); go_simp; (first | done | with_reducible rfl))
          (try simp only [Act.put, List.setIfInBounds_toArray, List.set_cons_zero, List.set_cons_succ])
          refine take_ (i := 7) (oi := { dst := some 35, op := Go.Op.fieldAddr 36 (Go.Operand.tmp 4) 1, type := 0, pos := "walk.go:69", after := #[], guard := none }) (v := ?v7_b) #[true, true, true, true, true, true, true, true, false, false, false, false, false, false, false, false, false, false, false] rfl rfl (by kernel_rfl) (fun _ _ _ h => h) (Or.inl ⟨by rfl, ?hy7_b⟩) (by assumption) rfl ?rest7_b
          case hy7_b => (intro w hSw; (try dsimp only at hSw); go_simp; (first | done | with_reducible rfl))
          (try simp only [Act.put, List.setIfInBounds_toArray, List.set_cons_zero, List.set_cons_succ])
          refine take_ (i := 8) (oi := { dst := some 36, op := Go.Op.load 3 (Go.Operand.tmp 35), type := 3, pos := "walk.go:69", after := #[{ on := 7, ground := Go.Ground.data }], guard := none }) (v := ?v8_b) #[true, true, true, true, true, true, true, true, true, false, false, false, false, false, false, false, false, false, false] rfl rfl (by kernel_rfl) (fun _ _ _ h => h) (Or.inl ⟨by rfl, ?hy8_b⟩) (by assumption) rfl ?rest8_b
          case hy8_b => (intro w hSw; (try dsimp only at hSw); go_simp; (first | done | with_reducible rfl))
          (try simp only [Act.put, List.setIfInBounds_toArray, List.set_cons_zero, List.set_cons_succ])
          refine take_ (i := 9) (oi := { dst := some 37, op := Go.Op.binOp Go.BinOp.add 3 (Go.Operand.tmp 36) (Go.Operand.const (Go.Value.int Go.IntKind.i64 1)) 3, type := 3, pos := "walk.go:69", after := #[{ on := 8, ground := Go.Ground.data }], guard := none }) (v := ?v9_b) #[true, true, true, true, true, true, true, true, true, true, false, false, false, false, false, false, false, false, false] rfl rfl (by kernel_rfl) (fun _ _ _ h => h) (Or.inl ⟨by rfl, ?hy9_b⟩) (by assumption) rfl ?rest9_b
          case hy9_b => (intro w hSw; (try dsimp only at hSw); go_simp; (first | done | with_reducible rfl))
          (try simp only [Act.put, List.setIfInBounds_toArray, List.set_cons_zero, List.set_cons_succ])
          refine take_ (i := 10) (oi := { dst := some 38, op := Go.Op.fieldAddr 66 (Go.Operand.tmp 7) 2, type := 0, pos := "walk.go:69", after := #[], guard := none }) (v := ?v10_b) #[true, true, true, true, true, true, true, true, true, true, true, false, false, false, false, false, false, false, false] rfl rfl (by kernel_rfl) (fun _ _ _ h => h) (Or.inl ⟨by rfl, ?hy10_b⟩) (by assumption) rfl ?rest10_b
          case hy10_b => (intro w hSw; (try dsimp only at hSw); go_simp; (first | done | with_reducible rfl))
          (try simp only [Act.put, List.setIfInBounds_toArray, List.set_cons_zero, List.set_cons_succ])
          refine take_ (i := 11) (oi := { dst := some 39, op := Go.Op.load 34 (Go.Operand.tmp 38), type := 34, pos := "walk.go:69", after := #[{ on := 10, ground := Go.Ground.data }], guard := none }) (v := ?v11_b) #[true, true, true, true, true, true, true, true, true, true, true, true, false, false, false, false, false, false, false] rfl rfl (by kernel_rfl) (fun _ _ _ h => h) (Or.inl ⟨by rfl, ?hy11_b⟩) (by assumption) rfl ?rest11_b
          case hy11_b => (intro w hSw; (try dsimp only at hSw); go_simp; (first | done | with_reducible rfl))
          (try simp only [Act.put, List.setIfInBounds_toArray, List.set_cons_zero, List.set_cons_succ])
          refine one_ (i := 12) (oi := { dst := some 40, op := Go.Op.call { callee := Go.Callee.value (Go.Operand.func 28), args := #[Go.Operand.tmp 39], argTypes := #[34] }, type := 34, pos := "walk.go:69", after := #[{ on := 11, ground := Go.Ground.data }], guard := none }) #[true, true, true, true, true, true, true, true, true, true, true, true, true, false, false, false, false, false, false] rfl rfl (by kernel_rfl) (by decide) (fun K hK => ?_)
          go_simp
          refine (clone_str A2 c2 _ _ (Kd.F_now HF3.out) (by have := hv l[x.val] (List.getElem_mem _); omega)).mono ?_
          rintro e w5 ⟨v5, rfl, hR5, hB5⟩
          obtain ⟨A5, c5, rfl⟩ := Kd.R_slice hR5
          have s1 : w5.cell? ⟨W.heap.size, 0, none⟩ = some (.pointer (some ⟨gw, 0, none⟩)) := pw_cell_below hB5 e1
          have s2 : w5.cell? ⟨W.heap.size + 1, 1, none⟩ = some (.int .i64 d) := pw_cell_below hB5 e2
          have s3 : w5.cell? ⟨Bx, 0, none⟩ = some (.string l[x.val].f0) := pw_cell_below hB5 b0
          have s4 : w5.cell? ⟨Bx, 2, none⟩ = some (.slice A2 l[x.val].f2.length c2) := pw_cell_below hB5 b2
          have s5 : w5.cell? ⟨gw, 2, none⟩ = some vs' := pw_cell_below hB5 w2
          have HR5 := Lib.hid hR5; clear hR5
          have HB5 := Lib.hid hB5; clear hB5
          refine hK.out _ _ ⟨s1, s2, s3, s4, s5⟩ (fun hHeld2 => ?_)
          clear hK K hHeld
          (try simp only [Act.put, List.setIfInBounds_toArray, List.set_cons_zero, List.set_cons_succ])
          refine take_ (i := 13) (oi := { dst := some 41, op := Go.Op.build 36 #[(0, Go.Operand.tmp 34), (1, Go.Operand.tmp 37), (2, Go.Operand.tmp 40)], type := 36, pos := "walk.go:69", after := #[{ on := 6, ground := Go.Ground.data }, { on := 9, ground := Go.Ground.data }, { on := 12, ground := Go.Ground.data }], guard := none }) (v := ?v13_b) #[true, true, true, true, true, true, true, true, true, true, true, true, true, true, false, false, false, false, false] rfl rfl (by kernel_rfl) (fun _ _ _ h => h) (Or.inl ⟨by rfl, ?hy13_b⟩) hHeld2 rfl ?rest13_b
          case hy13_b => (intro w hSw; (try dsimp only at hSw); go_simp; (first | done | with_reducible rfl))
          (try simp only [Act.put, List.setIfInBounds_toArray, List.set_cons_zero, List.set_cons_succ])
          refine one_ (i := 14) (oi := { dst := some 42, op := Go.Op.buildSlice 27 1 #[(0, Go.Operand.tmp 41)], type := 27, pos := "walk.go:69", after := #[{ on := 13, ground := Go.Ground.data }], guard := none }) #[true, true, true, true, true, true, true, true, true, true, true, true, true, true, true, false, false, false, false] rfl rfl (by kernel_rfl) (by decide) (fun K hK => ?_)
          go_simp
          refine hK.out _ _ ⟨by rw [World.cell?_alloc_lt _ _ _ (World.block_lt_of_cell? _ _ s1)]; exact s1, by rw [World.cell?_alloc_lt _ _ _ (World.block_lt_of_cell? _ _ s2)]; exact s2, by rw [World.cell?_alloc_lt _ _ _ (World.block_lt_of_cell? _ _ s3)]; exact s3, by rw [World.cell?_alloc_lt _ _ _ (World.block_lt_of_cell? _ _ s4)]; exact s4, by rw [World.cell?_alloc_lt _ _ _ (World.block_lt_of_cell? _ _ s5)]; exact s5⟩ (fun hHeld3 => ?_)
          clear hK K
          (try simp only [Act.put, List.setIfInBounds_toArray, List.set_cons_zero, List.set_cons_succ])
          refine one_ (i := 15) (oi := { dst := some 43, op := Go.Op.call { callee := Go.Callee.builtin Go.Builtin.append, args := #[Go.Operand.tmp 32, Go.Operand.tmp 42], argTypes := #[27, 27] }, type := 27, pos := "walk.go:69", after := #[{ on := 4, ground := Go.Ground.data }, { on := 14, ground := Go.Ground.data }, { on := 12, ground := Go.Ground.chain }], guard := none }) #[true, true, true, true, true, true, true, true, true, true, true, true, true, true, true, true, false, false, false] rfl rfl (by kernel_rfl) (by decide) (fun K hK => ?_)
          have h5 := (H1.out.drewN 1).below HB5.out
          have hM5 : k38.M w5 B (fun k => W1.heap.size ≤ k) (stepOf d l[x.val]) [.string l[x.val].f0, .int .i64 (d + 1), .slice A5 l[x.val].f2.length c5] :=
            k38_mkM w5 B _ (stepOf d l[x.val]) (Kd.R_lower (Kd.R_mono (Kd.R_bound HR5.out) (fun k hk => hk.2.1)) (by have := H1.out.base.1; have := blk_lt H1.out.obj; show B ≤ W1.heap.size; omega))
          refine Kd.R_append_step k38 (w0 := w5) B (by rfl) (.tmp 32) (.tmp 42) 27 36 (.agg #[.string ⟨#[]⟩, .int .i64 0, .slice none 0 0]) 48 rfl Try.underlying27 info36 rfl (by decide) (by decide) vs' _ (stepOf d l[x.val]) _ (okW gw gm) (fun k => W1.heap.size ≤ k) rfl rfl hM5 ?hokpb ?hfreshb h5.stack (Below.refl _ _) (by have := h5.base.1; have := blk_lt h5.obj; omega) (by have := HLR.out; rw [List.length_reverse]; omega) ?happb
          case hokpb =>
            intro k hk
            have q1 := blk_lt H1.out.obj
            have q2 := H1.out.map.lt
            refine ⟨⟨by omega, by omega⟩, fun e => ?_⟩
            have := Kd.R_lt H1.out.stack k e.symm
            omega
          case hfreshb =>
            intro k hk
            have q1 := blk_lt h5.obj
            have q2 := h5.map.lt
            exact ⟨by omega, by omega⟩
          case happb =>
            intro v1 w6 hR6 _ hg6 hat6
            obtain ⟨A6, n6, c6, rfl⟩ : ∃ A n c, v1 = .slice A n c := ⟨_, _, _, (Kd.R_slice hR6).choose_spec.choose_spec⟩
            have far : ∀ (p : Addr) (v : Value), w5.cell? p = some v → some p.block ≠ vs'.ownBlock → w6.cell? p = some v := fun p v hp hne => (World.cell?_of_block (hg6.block _ (World.block_lt_of_cell? _ _ hp) hne)).trans hp
            have o6 : w6.heap[gw]? = some (.cells #[.int .i64 dep, .bool _, vs', .map (some gm)] 82 (0, 0)) := (hg6.block gw (blk_lt h5.obj) NS.out.2.2.2).trans h5.obj
            have m6 := h5.map.step (hg6.block gm h5.map.lt (fun e => (h5.stack.1 gm e.symm).2 rfl))
            have f6 : w6.frozen? ⟨gw, 2, none⟩ = false := by simp [World.frozen?, o6]
            have t5 := far _ _ s5 NS.out.2.2.2
            have H5 := Lib.hid h5; clear h5
            have O6 := Lib.hid o6; clear o6
            have M6 := Lib.hid m6; clear m6
            have HR6 := Lib.hid hR6; clear hR6
            have HG6 := Lib.hid hg6; clear hg6
            have HAT6 := Lib.hid hat6; clear hat6
            refine hK.out _ _ ⟨far _ _ s1 NS.out.1, far _ _ s2 NS.out.2.1, far _ _ s3 NS.out.2.2.1, far _ _ s4 NS.out.2.2.1, t5⟩ (fun hHeld4 => ?_)
            clear hK K far
            (try simp only [Act.put, List.setIfInBounds_toArray, List.set_cons_zero, List.set_cons_succ])
            refine take_ (i := 16) (oi := { dst := some 44, op := Go.Op.nilCheck (Go.Operand.tmp 28), type := 0, pos := "walk.go:69", after := #[{ on := 0, ground := Go.Ground.data }, { on := 0, ground := Go.Ground.phase }, { on := 1, ground := Go.Ground.phase }, { on := 2, ground := Go.Ground.phase }, { on := 3, ground := Go.Ground.phase }, { on := 4, ground := Go.Ground.phase }, { on := 5, ground := Go.Ground.phase }, { on := 6, ground := Go.Ground.phase }, { on := 7, ground := Go.Ground.phase }, { on := 8, ground := Go.Ground.phase }, { on := 9, ground := Go.Ground.phase }, { on := 10, ground := Go.Ground.phase }, { on := 11, ground := Go.Ground.phase }, { on := 12, ground := Go.Ground.phase }, { on := 13, ground := Go.Ground.phase }, { on := 14, ground := Go.Ground.phase }, { on := 15, ground := Go.Ground.phase }], guard := none }) (v := ?v16_b) #[true, true, true, true, true, true, true, true, true, true, true, true, true, true, true, true, true, false, false] rfl rfl (by kernel_rfl) (fun _ _ _ h => h) (Or.inl ⟨by rfl, ?hy16_b⟩) hHeld4 rfl ?rest16_b
            case hy16_b => (intro w hSw; (try dsimp only at hSw); go_simp; (first | done | with_reducible rfl))
            (try simp only [Act.put, List.setIfInBounds_toArray, List.set_cons_zero, List.set_cons_succ])
            refine take_ (i := 17) (oi := { dst := some 45, op := Go.Op.fieldAddr 82 (Go.Operand.tmp 44) 2, type := 0, pos := "walk.go:69", after := #[{ on := 16, ground := Go.Ground.data }, { on := 0, ground := Go.Ground.phase }, { on := 1, ground := Go.Ground.phase }, { on := 2, ground := Go.Ground.phase }, { on := 3, ground := Go.Ground.phase }, { on := 4, ground := Go.Ground.phase }, { on := 5, ground := Go.Ground.phase }, { on := 6, ground := Go.Ground.phase }, { on := 7, ground := Go.Ground.phase }, { on := 8, ground := Go.Ground.phase }, { on := 9, ground := Go.Ground.phase }, { on := 10, ground := Go.Ground.phase }, { on := 11, ground := Go.Ground.phase }, { on := 12, ground := Go.Ground.phase }, { on := 13, ground := Go.Ground.phase }, { on := 14, ground := Go.Ground.phase }, { on := 15, ground := Go.Ground.phase }], guard := none }) (v := ?v17_b) #[true, true, true, true, true, true, true, true, true, true, true, true, true, true, true, true, true, true, false] rfl rfl (by kernel_rfl) (fun _ _ _ h => h) (Or.inl ⟨by rfl, ?hy17_b⟩) hHeld4 rfl ?rest17_b
            case hy17_b => (intro w hSw; (try dsimp only at hSw); go_simp; (first | done | with_reducible rfl))
            (try simp only [Act.put, List.setIfInBounds_toArray, List.set_cons_zero, List.set_cons_succ])
            refine last_ (i := 18) (oi := { dst := none, op := Go.Op.store 27 (Go.Operand.tmp 45) (Go.Operand.tmp 43), type := 0, pos := "walk.go:69", after := #[{ on := 17, ground := Go.Ground.data }, { on := 15, ground := Go.Ground.data }, { on := 15, ground := Go.Ground.chain }, { on := 0, ground := Go.Ground.phase }, { on := 1, ground := Go.Ground.phase }, { on := 2, ground := Go.Ground.phase }, { on := 3, ground := Go.Ground.phase }, { on := 4, ground := Go.Ground.phase }, { on := 5, ground := Go.Ground.phase }, { on := 6, ground := Go.Ground.phase }, { on := 7, ground := Go.Ground.phase }, { on := 8, ground := Go.Ground.phase }, { on := 9, ground := Go.Ground.phase }, { on := 10, ground := Go.Ground.phase }, { on := 11, ground := Go.Ground.phase }, { on := 12, ground := Go.Ground.phase }, { on := 13, ground := Go.Ground.phase }, { on := 14, ground := Go.Ground.phase }, { on := 15, ground := Go.Ground.phase }], guard := none }) #[true, true, true, true, true, true, true, true, true, true, true, true, true, true, true, true, true, true, true] rfl rfl (by kernel_rfl) (by decide) (fun K hK => ?_)
            go_simp
            refine hK.out _ _ ?_
            clear hK K
            refine done_ (by kernel_rfl) ?_
            exact push_done W0 W1 w5 w6 B gw gm vs vs' A6 c6 dep _ row n came l d pre x okc W.heap.size HB0.out (fun k hk => hokc k hk) H.out.stack H1.out H2.out H3.out HB5.out (by simp [counts, hs3]) H5.out O6.out M6.out HR6.out HG6.out HAT6.out NS.out.2.2.2 HSZ.out hgw
            
      case done =>
        rintro D xs W1 hD hxs ⟨vs', h1, h2, h3⟩ hK
        gi_wp2
        refine ⟨by simp, .inl ⟨_, _, rfl, run_takeDeferred hK, ?_⟩⟩
        refine ⟨_, results_none rfl _ _ _, ⟨_, rfl⟩, vs', ?_, ?_, ?_⟩
        · have h4 := h1.own (grownBy_putObj' W1 D (.deferred none)) (fun r e => by cases e; exact ⟨by omega, by omega, _, hK, rfl⟩)
          rw [downto_all hxs] at h4
          rw [show belowM dep sug d l = (l.filter (counts sug)).map (stepOf d) from if_pos hlt]
          exact h4
        · refine ⟨?_, fun k hk hne => ?_, h2.3.1.trans HB0.out.os, h2.3.2.1.trans HB0.out.tape, h2.3.2.2.trans HB0.out.output⟩
          · have := h2.1
            simp
            omega
          · exact (World.putObj_heap_other (by omega)).trans ((h2.2 k (by omega) hne).trans (HB0.out.block k hk))
        · rcases h3 with h3 | ⟨b, h3, hb⟩
          · exact .inl h3
          · exact .inr ⟨b, h3, by omega⟩
      case stop =>
        rintro D c pre W1 _ _ hf _
        exact hf.elim
  · gi_wp2_with fail
    gi_region
    gi_wp2_with fail
    refine ⟨_, results_none rfl _ _ _, ⟨_, rfl⟩, vs, ?_, ?_, .inl rfl⟩
    · rw [show belowM dep sug d l = [] from if_neg (Int.not_lt.2 hlt)]
      exact H.out.below (below_drew (below_alloc (below_alloc (Below.refl _ _) _) _))
    · exact ⟨by simp; omega, fun k hk _ => (below_drew (below_alloc (below_alloc (Below.refl _ W) _) _)).block k hk, rfl, rfl, rfl⟩
end Go.Proofs.Yteamocejpankdaa
