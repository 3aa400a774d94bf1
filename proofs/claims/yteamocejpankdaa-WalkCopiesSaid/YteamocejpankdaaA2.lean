/- A map from texts to whole numbers that the call made, as a function on texts: looked up, stored into; and a walk's object in memory. For every world. -/
import Derived.Test.YteamocejpankdaaA1
import Derived.Test.YteamocejpankdaaA0
import Derived.Maps.OwnOps
import Derived.Maps.Views
import Derived.Maps.OwnSet
import Derived.Deep.QuietTactic
import Derived.BigQuiet
namespace Go.Proofs.Yteamocejpankdaa
open Go.RowKit Go.Proofs.YteamocejpankdaaW.PrintWords Go.Proofs.Yteamocejpankdaa.PWalkCopies
set_option linter.unusedVariables false
set_option linter.unusedSimpArgs false

def klit (k : ByteArray) : Lit := .string k.data.toList
theorem klit_inj {a b : ByteArray} (h : klit a = klit b) : a = b := WideShapes.bytes_inj (by injection h)

/-- Block b is a map of at most n entries; at k stands f k (0: nothing). -/
def SMap (w : World) (b n : Nat) (f : ByteArray → Int) : Prop :=
  ∃ D : DataW Unit, w.ownsMap Try.prog 9 (plainElem Try.prog 3) b n D ∧ Maps.IsMap D ∧ ∀ k : ByteArray, D.atKey (klit k) (.lit (.int .i64 0)) = .lit (.int .i64 (f k))

theorem SMap.lt {w : World} {b n : Nat} {f : ByteArray → Int} (h : SMap w b n f) : b < w.heap.size := by
  obtain ⟨D, h, _⟩ := h
  exact h.lt
theorem SMap.step {w w' : World} {b n : Nat} {f : ByteArray → Int} (h : SMap w b n f) (hb : w'.heap[b]? = w.heap[b]?) : SMap w' b n f := by
  obtain ⟨D, ⟨es, clock, hh, r⟩, hI, hf⟩ := h
  exact ⟨D, ⟨es, clock, hb.trans hh, r⟩, hI, hf⟩
theorem SMap.made (w : World) : SMap (w.alloc (.map #[] 0)) w.heap.size 0 (fun _ => 0) :=
  ⟨.map [], World.ownsMap_made _ _ _ _, ⟨[], rfl⟩, fun _ => rfl⟩
theorem SMap.blk {w : World} {b n : Nat} {f : ByteArray → Int} (h : SMap w b n f) : ∃ es clock, w.heap[b]? = some (.map es clock) := by
  obtain ⟨D, ⟨es, clock, hh, r⟩, _⟩ := h
  exact ⟨es, clock, hh⟩

theorem keyOf_str (k : ByteArray) (hk : k.size ≤ maxLen) : keyOf Try.prog 9 (.string k) = some (klit k) := WideMaps.keyOf_string_mk Try.underlying9 hk

theorem zero3 (w : World) : (zeroValue 3).run Try.prog w = .ok (.int .i64 0) w := by kernel_rfl

theorem SMap.look {w : World} {b n : Nat} {f : ByteArray → Int} (h : SMap w b n f) (k : ByteArray) (hk : k.size ≤ maxLen) :
    (Instr.lookup 33 (.map (some b)) (.string k) false).run Try.prog w = .ok (.int .i64 (f k)) w := by
  obtain ⟨D, ho, hI, hf⟩ := h
  obtain ⟨c, hrun, hat, _⟩ := ho.lookup_int (Maps.string_keyed Try.underlying9) Try.underlying33 Try.underlying3 (zero3 w) (keyOf_str k hk)
  rw [hrun]
  have := hf k
  rw [hat] at this
  rw [(Lit.int.inj (DataW.lit.inj this)).2]

def upd (f : ByteArray → Int) (k : ByteArray) (v : Int) : ByteArray → Int := fun x => if x = k then v else f x

theorem SMap.put {w : World} {b n : Nat} {f : ByteArray → Int} (h : SMap w b n f) (k : ByteArray) (hk : k.size ≤ maxLen) (v : Int) (hv : (Lit.int .i64 v).wf = true) (hn : n < maxLen) :
    ∃ w', (Instr.mapUpdate 33 (.map (some b)) (.string k) (.int .i64 v)).run Try.prog w = .ok () w' ∧ SMap w' b (n + 1) (upd f k v) ∧ w.grownBy w' (some b) := by
  obtain ⟨D, ho, hI, hf⟩ := h
  obtain ⟨w', hrun, ho', hg⟩ := ho.update (Maps.string_keyed Try.underlying9) Try.underlying33 hn (keyOf_str k hk) (plainElem_int Try.underlying3 hv)
  refine ⟨w', hrun, ⟨_, ho', hI.put _ _, fun x => ?_⟩, hg⟩
  unfold upd
  by_cases hx : x = k
  · rw [if_pos hx, hx, Maps.atKey_put_same hI (by simp [WideAt.IsKeyLit, klit])]
  · rw [if_neg hx, Maps.atKey_put_other (fun e => hx (klit_inj e)), hf x]
/-! ### the walk's object -/
instance : Inhabited S38 := ⟨⟨ByteArray.empty, 0, []⟩⟩
instance : Inhabited S44 := ⟨⟨ByteArray.empty, ByteArray.empty, [], false, 0⟩⟩

def okW (gw gm : Nat) : Nat → Prop := fun k => k ≠ gw ∧ k ≠ gm

/-- A walk's object at block gw, its map at gm: the row's first room is the stack's last. -/
structure IsWalkO (ok : Nat → Prop) (W : World) (B gw gm : Nat) (vs : Value) (dep : Int) (sug : Bool) (row : List S38) (n : Nat) (came : ByteArray → Int) : Prop where
  base : B ≤ gw ∧ B ≤ gm ∧ ∀ k, ok k → okW gw gm k
  obj : W.heap[gw]? = some (.cells #[.int .i64 dep, .bool sug, vs, .map (some gm)] 82 (0, 0))
  map : SMap W gm n came
  stack : k38.R 36 W B ok vs row.reverse

abbrev IsWalk (W : World) (B gw gm : Nat) (vs : Value) (dep : Int) (sug : Bool) (row : List S38) (n : Nat) (came : ByteArray → Int) : Prop := IsWalkO (okW gw gm) W B gw gm vs dep sug row n came

theorem IsWalkO.cells {ok : Nat → Prop} {W : World} {B gw gm : Nat} {vs : Value} {dep : Int} {sug : Bool} {row : List S38} {n : Nat} {came : ByteArray → Int} (h : IsWalkO ok W B gw gm vs dep sug row n came) :
    W.cell? ⟨gw, 0, none⟩ = some (.int .i64 dep) ∧ W.cell? ⟨gw, 1, none⟩ = some (.bool sug) ∧ W.cell? ⟨gw, 2, none⟩ = some vs ∧ W.cell? ⟨gw, 3, none⟩ = some (.map (some gm)) ∧
    W.frozen? ⟨gw, 2, none⟩ = false :=
  ⟨(blk_cell h.obj 0).trans rfl, (blk_cell h.obj 1).trans rfl, (blk_cell h.obj 2).trans rfl, (blk_cell h.obj 3).trans rfl, by simp [World.frozen?, h.obj]⟩

/-- The row's first room stands last in the stack. -/
theorem IsWalkO.last {ok : Nat → Prop} {W : World} {B gw gm : Nat} {vs : Value} {dep : Int} {sug : Bool} {x : S38} {rest : List S38} {n : Nat} {came : ByteArray → Int} (h : IsWalkO ok W B gw gm vs dep sug (x :: rest) n came) :
    ∃ g cap A c, vs = .slice (some ⟨g, 0, none⟩) (rest.length + 1) cap ∧ rest.length + 1 ≤ cap ∧ B ≤ g ∧ g < W.heap.size ∧ g ≠ gw ∧ g ≠ gm ∧ W.cell? ⟨g, rest.length * 3, none⟩ = some (.string x.f0) ∧
      W.cell? ⟨g, rest.length * 3 + 1, none⟩ = some (.int .i64 x.f1) ∧ W.cell? ⟨g, rest.length * 3 + 2, none⟩ = some (.slice A x.f2.length c) ∧ x.f2.length ≤ c ∧ Kd.string.C W A x.f2.length x.f2 := by
  obtain ⟨g, cap, rfl, hg, hlt, _⟩ := Kd.R_form h.stack (by simp)
  simp only [List.length_reverse, List.length_cons] at *
  have hle := (Kd.R_reads' h.stack).2.1
  obtain ⟨c, hcl, hM, hcc, _⟩ := Kd.R_elem h.stack default rest.length (by omega) (by omega)
  have hk := k38.K_of_M hM
  simp only [Int.toNat_natCast, List.reverse_cons] at hk hcc
  rw [show (rest.reverse ++ [x]).getD rest.length default = x by simp [List.getD_eq_getElem?_getD]] at hk
  obtain ⟨A, m, rfl, hm, hC⟩ := k38_open hk
  have hok := h.base.2.2 _ (h.stack.1 g rfl)
  exact ⟨g, cap, A, m, rfl, hle, hg, hlt, hok.1, hok.2, hcc 0 _ rfl, hcc 1 _ rfl, hcc 2 _ rfl, hm, hC⟩

theorem IsWalkO.drewN {ok : Nat → Prop} {W : World} {B gw gm : Nat} {vs : Value} {dep : Int} {sug : Bool} {row : List S38} {n : Nat} {came : ByteArray → Int} (h : IsWalkO ok W B gw gm vs dep sug row n came) (k : Nat) : IsWalkO ok (W.drewN k) B gw gm vs dep sug row n came :=
  ⟨h.base, h.obj, h.map, Kd.R_drewN h.stack k⟩

theorem IsWalkO.ne {ok : Nat → Prop} {W : World} {B gw gm : Nat} {vs : Value} {dep : Int} {sug : Bool} {row : List S38} {n : Nat} {came : ByteArray → Int} (h : IsWalkO ok W B gw gm vs dep sug row n came) : gm ≠ gw := by
  rintro rfl
  obtain ⟨es, clock, hb⟩ := h.map.blk
  rw [h.obj] at hb
  cases hb
/-- Another stack in the object. -/
theorem IsWalkO.put {ok : Nat → Prop} {W : World} {B gw gm : Nat} {vs v : Value} {dep : Int} {sug : Bool} {row row' : List S38} {n : Nat} {came : ByteArray → Int} (h : IsWalkO ok W B gw gm vs dep sug row n came)
    (hs : k38.R 36 W B ok v row'.reverse) : IsWalkO ok (W.setCell ⟨gw, 2, none⟩ v) B gw gm v dep sug row' n came :=
  ⟨h.base, by simpa using blk_set h.obj 2 v, h.map.step (Below.heap_setCell W ⟨gw, 2, none⟩ v gm h.ne), Kd.R_far (p := ⟨gw, 2, none⟩) hs (fun k hk => (h.base.2.2 k hk).1) v⟩
theorem KeepBut.put {w W : World} {g : Nat} (h : KeepBut w W g none) (j : Nat) (v : Value) : KeepBut w (W.setCell ⟨g, j, none⟩ v) g none :=
  ⟨by simpa using h.1, fun i hi hne hn => (Below.heap_setCell W ⟨g, j, none⟩ v i hne).trans (h.2 i hi hne hn), h.3⟩

theorem IsWalkO.mono {ok ok' : Nat → Prop} {W : World} {B gw gm : Nat} {vs : Value} {dep : Int} {sug : Bool} {row : List S38} {n : Nat} {came : ByteArray → Int} (h : IsWalkO ok W B gw gm vs dep sug row n came)
    (hi : ∀ k, ok k → ok' k) (ho : ∀ k, ok' k → okW gw gm k) : IsWalkO ok' W B gw gm vs dep sug row n came := ⟨⟨h.base.1, h.base.2.1, ho⟩, h.obj, h.map, Kd.R_mono h.stack hi⟩
theorem IsWalkO.bound {ok : Nat → Prop} {W : World} {B gw gm : Nat} {vs : Value} {dep : Int} {sug : Bool} {row : List S38} {n : Nat} {came : ByteArray → Int} (h : IsWalkO ok W B gw gm vs dep sug row n came) :
    IsWalkO (fun k => ok k ∧ k < W.heap.size) W B gw gm vs dep sug row n came := ⟨⟨h.base.1, h.base.2.1, fun k hk => h.base.2.2 k hk.1⟩, h.obj, h.map, Kd.R_mono (Kd.R_bound h.stack) (fun k hk => ⟨hk.1, hk.2.2.1⟩)⟩
/-- A store into a block that is none of the walk's. -/
theorem IsWalkO.far {ok : Nat → Prop} {W : World} {B gw gm : Nat} {vs : Value} {dep : Int} {sug : Bool} {row : List S38} {n : Nat} {came : ByteArray → Int} (h : IsWalkO ok W B gw gm vs dep sug row n came)
    {p : Addr} (h1 : gw ≠ p.block) (h2 : gm ≠ p.block) (h3 : ∀ k, ok k → k ≠ p.block) (v : Value) : IsWalkO ok (W.setCell p v) B gw gm vs dep sug row n came :=
  ⟨h.base, (Below.heap_setCell W p v gw h1).trans h.obj, h.map.step (Below.heap_setCell W p v gm h2), Kd.R_far h.stack h3 v⟩

def dropM (came : ByteArray → Int) : List S38 → List S38
  | [] => []
  | x :: rest => if 0 < came x.f0 then dropM came rest else x :: rest
set_option maxHeartbeats 400000 in
theorem drop_calls (ok : Nat → Prop) (W : World) (B gw gm : Nat) (vs : Value) (dep : Int) (sug : Bool) (row : List S38) (n : Nat) (came : ByteArray → Int) (h : IsWalkO ok W B gw gm vs dep sug row n came)
    (hz : ∀ x ∈ row, x.f0.size ≤ maxLen) (hl : row.length ≤ 4611686018427387904) :
    Calls Try.prog 27 #[.pointer (some ⟨gw, 0, none⟩)] W fun e W' => e = .returned (.tuple #[]) ∧ ∃ vs', IsWalkO ok W' B gw gm vs' dep sug (dropM came row) n came ∧ vs'.ownBlock = vs.ownBlock ∧ KeepBut W W' gw none := by
  obtain ⟨A0, c0, hvs⟩ := Kd.R_slice h.stack
  subst hvs
  have c2 := h.cells.2.2.1
  have H := Lib.hid h; clear h
  have HZ := Lib.hid hz; clear hz
  simp only [List.length_reverse] at *
  go_enter Try.func27, Try.ntmps27
  go_wp2_with fail
  go_loopw [2] (fun t wr => ∃ rest vs', t = .int .i64 (rest.length : Int) ∧ IsWalkO ok wr B gw gm vs' dep sug rest n came ∧ vs'.ownBlock = (Value.slice A0 row.length c0).ownBlock ∧ KeepBut W wr gw none ∧ Hid (dropM came row = dropM came rest) ∧ Hid (∀ x ∈ rest, x.f0.size ≤ maxLen) ∧ rest.length ≤ row.length) (fun t _ => (intOf t).toNat)
  case atStart => exact ⟨row, _, rfl, H.out, rfl, ⟨Nat.le_refl _, fun _ _ _ _ => rfl, rfl, rfl, rfl⟩, Lib.hid rfl, HZ, Nat.le_refl _⟩
  case round =>
    obtain ⟨rest, vs', rfl, h1, h2, h3, HD, HZ1, hle⟩ := hrel
    have H2 := Lib.hid h2; clear h2
    have H3 := Lib.hid h3; clear h3
    cases rest with
    | nil =>
      have H1 := Lib.hid h1; clear h1
      go_wp2_with fail
      go_quiet (fail)
      go_wp2_with fail
      go_end0
      exact ⟨rfl, vs', by rw [HD.out]; exact H1.out.drewN _, H2.out, H3.out.drewN _⟩
    | cons x rest =>
      obtain ⟨g, cap, A, c, rfl, q1, q2, q3, q4, q5, q6, q7, q8, q9, q10⟩ := h1.last
      obtain ⟨d0, d1, d2, d3, d4⟩ := h1.cells
      have hlk := fun m : Nat => (h1.drewN m).map.look x.f0 (HZ1.out x (by simp))
      have H1 := Lib.hid h1; clear h1
      have Q10 := Lib.hid q10; clear q10 q7 q8
      simp only [List.length_cons] at *
      by_cases hc : 0 < came x.f0
      · go_wp2_with fail
        go_quiet (fail)
        go_wp2_with fail
        go_roundw
        case rel =>
          have hst := Kd.R_take (m := rest.length) (H1.out.drewN nq).stack (by simp)
          rw [show List.take rest.length (x :: rest).reverse = rest.reverse by simp] at hst
          refine ⟨rest, _, rfl, (H1.out.drewN nq).put hst, H2.out, KeepBut.put (H3.out.drewN _) 2 _, Lib.hid ?_, Lib.hid (fun y hy => HZ1.out y (by simp [hy])), by omega⟩
          rw [HD.out]
          exact if_pos hc
        case measure => simp [intOf]
      · go_wp2_with fail
        go_quiet (fail)
        go_wp2_with fail
        go_end0
        exact ⟨rfl, _, by rw [HD.out, show dropM came (x :: rest) = x :: rest from if_neg (Int.not_lt.2 hc)]; exact H1.out.drewN _, H2.out, H3.out.drewN _⟩
end Go.Proofs.Yteamocejpankdaa
