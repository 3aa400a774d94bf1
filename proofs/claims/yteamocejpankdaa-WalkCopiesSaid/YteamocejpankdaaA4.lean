/- slices.Backward over a slice of children, as an iterator: from the last to the first; and the walk's below: the children that count stand ahead of all others. For every world. -/
import Derived.Test.YteamocejpankdaaA3
namespace Go.Proofs.Yteamocejpankdaa
open Go.RowKit Go.Shelf Go.Proofs.YteamocejpankdaaW.PrintWords Go.Proofs.Yteamocejpankdaa.PWalkCopies
attribute [local go_sem] Oper.semAt_some
set_option linter.unusedVariables false
set_option linter.unusedSimpArgs false

/-- The blocks of S are as they were. -/
def Kp (S : Nat → Prop) (W W' : World) : Prop := ∀ k, S k → W'.heap[k]? = W.heap[k]?
theorem Kp.refl (S : Nat → Prop) (W : World) : Kp S W W := fun _ _ => rfl
theorem Kp.trans {S : Nat → Prop} {A B C : World} (h : Kp S A B) (k : Kp S B C) : Kp S A C := fun i hi => (k i hi).trans (h i hi)
theorem Kp.cell {S : Nat → Prop} {A B : World} (h : Kp S A B) {p : Addr} (hp : S p.block) : B.cell? p = A.cell? p := World.cell?_of_block (h _ hp)
theorem Kp.below {S : Nat → Prop} {A B : World} {n : Nat} (h : Below n A B) (hS : ∀ k, S k → k < n) : Kp S A B := fun k hk => h.block k (hS k hk)

/-- What has come when k rounds are over, of len elements: the last, the one ahead of it, .. -/
def downto {α : Type} (f : Nat → α) (len k : Nat) : List α := (List.range k).map fun i => f (len - 1 - i)
theorem downto_succ {α : Type} (f : Nat → α) (len k : Nat) : downto f len (k + 1) = downto f len k ++ [f (len - 1 - k)] := by simp [downto, List.range_succ]
theorem downto_length {α : Type} (f : Nat → α) (len k : Nat) : (downto f len k).length = k := by simp [downto]

set_option maxRecDepth 100000 in
set_option maxHeartbeats 2000000 in
theorem backward1_in (n : Nat) (hn : 1 ≤ n) (l Bs b off len cap : Nat) (S : Nat → Prop) (f : Nat → Value × Value × Value × Value × Value) (hlen : len ≤ 4611686018427387904) (hb : S b) (hBn : S Bs) (J Jx : List (Fin len) → World → Prop)
    (hY : ∀ pre x W, J pre W → pre.length < len → YieldAt Fence.wide (n - 1) Try.prog l #[.int .i64 (x.val : Int), .agg #[(f x.val).1, (f x.val).2.1, (f x.val).2.2.1, (f x.val).2.2.2.1, (f x.val).2.2.2.2]] W fun e W' =>
      (e = .returned (.bool true) ∧ J (pre ++ [x]) W' ∧ Kp S W W') ∨ (e = .returned (.bool false) ∧ Jx (pre ++ [x]) W'))
    (W : World) (hBs : W.cell? ⟨Bs, 0, none⟩ = some (.slice (some ⟨b, off, none⟩) len cap))
    (hc : ∀ j, j < len → W.cell? ⟨b, off + j * 5, none⟩ = some (f j).1 ∧ W.cell? ⟨b, off + j * 5 + 1, none⟩ = some (f j).2.1 ∧ W.cell? ⟨b, off + j * 5 + 2, none⟩ = some (f j).2.2.1 ∧ W.cell? ⟨b, off + j * 5 + 3, none⟩ = some (f j).2.2.2.1 ∧ W.cell? ⟨b, off + j * 5 + 4, none⟩ = some (f j).2.2.2.2) (h0 : J [] W) :
    CallsIn Fence.wide n Try.prog 51 #[.func (.yield l) #[] #[], .pointer (some ⟨Bs, 0, none⟩)] W fun e W' => (∃ v, e = .returned v) ∧
      ((∃ ys, ys.map Fin.val = downto id len len ∧ J ys W') ∨ (∃ pre, Jx pre W')) := by
  refine callsIn_of_wp Try.func51 rfl trivial ?_ rfl
  simp only [Try.ntmps51, List.size_toArray, List.length_cons, List.length_nil, Nat.reduceAdd, Nat.reduceSub, Array.replicate_succ, Array.replicate_zero, List.push_toArray, List.append_toArray, List.nil_append, List.cons_append]
  gi_wp2
  gi_loopw [3] (fun i wr => ∃ m : Int, ∃ k : Nat, k ≤ len ∧ m = (len : Int) - 1 - k ∧ i = .int .i64 m ∧ (∃ pre : List (Fin len), Hid (pre.map Fin.val = downto id len k) ∧ J pre wr) ∧ Kp S W wr)
    (fun i _ => (intOf i + 1).toNat)
  case atStart => exact ⟨_, 0, Nat.zero_le _, by omega, rfl, ⟨[], Lib.hid rfl, h0⟩, Kp.refl _ _⟩
  case round =>
    obtain ⟨m, k, hk, hm, rfl, ⟨pre, HP, hJs⟩, hnx⟩ := hrel
    have hBx := (hnx.cell (p := ⟨Bs, 0, none⟩) hBn).trans hBs
    by_cases hlt : k < len
    · obtain ⟨j, hj⟩ : ∃ j : Nat, j = len - 1 - k := ⟨_, rfl⟩
      obtain ⟨q0, q1, q2, q3, q4⟩ := hc j (by omega)
      have d0 := (hnx.cell (p := ⟨b, off + j * 5, none⟩) hb).trans q0
      have d1 := (hnx.cell (p := ⟨b, off + j * 5 + 1, none⟩) hb).trans q1
      have d2 := (hnx.cell (p := ⟨b, off + j * 5 + 2, none⟩) hb).trans q2
      have d3 := (hnx.cell (p := ⟨b, off + j * 5 + 3, none⟩) hb).trans q3
      have d4 := (hnx.cell (p := ⟨b, off + j * 5 + 4, none⟩) hb).trans q4
      clear q0 q1 q2 q3 q4
      obtain rfl : m = (j : Int) := by omega
      have HM := Lib.hid hm; have HJ := Lib.hid hj; clear hm hj
      have hj0 : (j : Int) < (len : Int) := by have := HM.out; omega
      obtain ⟨fn, tmps, assign, body, hy, hR⟩ := hY pre ⟨j, by omega⟩ wr hJs (by have := congrArg List.length HP.out; rw [List.length_map, downto_length] at this; omega)
      dsimp only at hy
      have HC := Lib.hid hc; clear hc
      gi_wp2
      refine hR.mono ?_
      rintro e W3 (⟨rfl, hJ3, hk3⟩ | ⟨rfl, hJx3⟩)
      · gi_wp2
        go_roundw
        case rel =>
          refine ⟨_, k + 1, by omega, ?_, rfl, ⟨_, Lib.hid ?_, hJ3⟩, hnx.trans hk3⟩
          · have := HM.out
            omega
          · rw [List.map_append, HP.out, downto_succ, ← HJ.out]; rfl
        case measure => simp [intOf]
      · gi_wp2
        refine bodyPost_ret (results_none rfl _ _ _) rfl ?_
        exact ⟨⟨_, rfl⟩, .inr ⟨_, hJx3⟩⟩
    · obtain rfl : k = len := by omega
      obtain rfl : m = -1 := by omega
      clear hm
      gi_wp2
      go_end0
      exact ⟨⟨_, rfl⟩, .inl ⟨_, HP.out, hJs⟩⟩

set_option maxRecDepth 100000 in
set_option maxHeartbeats 1000000 in
theorem backward1_nil_in (n : Nat) (l Bs : Nat) (A : Option Addr) (cap : Nat) (J : World → Prop) (W : World) (hBs : W.cell? ⟨Bs, 0, none⟩ = some (.slice A 0 cap)) (h0 : J W) :
    CallsIn Fence.wide n Try.prog 51 #[.func (.yield l) #[] #[], .pointer (some ⟨Bs, 0, none⟩)] W fun e W' => (∃ v, e = .returned v) ∧ J W' := by
  refine callsIn_of_wp Try.func51 rfl trivial ?_ rfl
  simp only [Try.ntmps51, List.size_toArray, List.length_cons, List.length_nil, Nat.reduceAdd, Nat.reduceSub, Array.replicate_succ, Array.replicate_zero, List.push_toArray, List.append_toArray, List.nil_append, List.cons_append]
  gi_wp2
  gi_loopw [3] (fun i wr => i = .int .i64 (-1) ∧ J wr) (fun _ _ => 0)
  case atStart => exact ⟨rfl, h0⟩
  case round =>
    obtain ⟨rfl, hJs⟩ := hrel
    gi_wp2
    go_end0
    exact ⟨⟨_, rfl⟩, hJs⟩

set_option maxHeartbeats 1000000 in
theorem backward_in (n : Nat) (a : Option Addr) (len cap : Nat) (w : World) :
    CallsIn Fence.wide n Try.prog 39 #[.slice a len cap] w fun e w' => e = .returned (.func (.func 51) #[] #[.pointer (some ⟨w.heap.size, 0, none⟩)]) ∧ w' = w.alloc (.cells #[.slice a len cap] 63) := by
  refine callsIn_of_wp Try.func39 rfl trivial ?_ rfl
  simp only [Try.ntmps39, List.size_toArray, List.length_cons, List.length_nil, Nat.reduceAdd, Nat.reduceSub, Array.replicate_succ, Array.replicate_zero, List.push_toArray, List.append_toArray, List.nil_append, List.cons_append]
  gi_wp2
  go_ret
  exact ⟨rfl, rfl⟩

/-- The cells of child j of a row of children. -/
def CellsOf (W : World) (S : Nat → Prop) (A : Option Addr) (len : Nat) (f : Nat → Value × Value × Value × Value × Value) : Prop :=
  0 < len → ∃ b off, A = some ⟨b, off, none⟩ ∧ S b ∧ ∀ j, j < len → W.cell? ⟨b, off + j * 5, none⟩ = some (f j).1 ∧ W.cell? ⟨b, off + j * 5 + 1, none⟩ = some (f j).2.1 ∧ W.cell? ⟨b, off + j * 5 + 2, none⟩ = some (f j).2.2.1 ∧ W.cell? ⟨b, off + j * 5 + 3, none⟩ = some (f j).2.2.2.1 ∧ W.cell? ⟨b, off + j * 5 + 4, none⟩ = some (f j).2.2.2.2
theorem CellsOf.below {W W' : World} {S : Nat → Prop} {A : Option Addr} {len : Nat} {f : Nat → Value × Value × Value × Value × Value} (h : CellsOf W S A len f) (hb : Kp S W W') : CellsOf W' S A len f := fun hl => by
  obtain ⟨b, off, rfl, hlt, hc⟩ := h hl
  refine ⟨b, off, rfl, hlt, fun j hj => ?_⟩
  obtain ⟨q0, q1, q2, q3, q4⟩ := hc j hj
  exact ⟨(hb.cell (p := ⟨b, _, none⟩) hlt).trans q0, (hb.cell (p := ⟨b, _, none⟩) hlt).trans q1, (hb.cell (p := ⟨b, _, none⟩) hlt).trans q2, (hb.cell (p := ⟨b, _, none⟩) hlt).trans q3, (hb.cell (p := ⟨b, _, none⟩) hlt).trans q4⟩

theorem backward_stops (n : Nat) (hn : 1 ≤ n) (Bs : Nat) (S : Nat → Prop) (A : Option Addr) (len cap : Nat) (f : Nat → Value × Value × Value × Value × Value) (hlen : len ≤ 4611686018427387904) (w : World) (hBs : S Bs) (hS : ∀ k, S k → k < w.heap.size)
    (hc : w.cell? ⟨Bs, 0, none⟩ = some (.slice A len cap)) (hI : CellsOf w S A len f) :
    SeqStopsK Fence.wide n Try.prog 51 #[.pointer (some ⟨Bs, 0, none⟩)] (fun x : Fin len => #[.int .i64 (x.val : Int), .agg #[(f x.val).1, (f x.val).2.1, (f x.val).2.2.1, (f x.val).2.2.2.1, (f x.val).2.2.2.2]]) (Kp S)
      (fun ys => ys.map Fin.val = downto id len len) (fun pre => True) len w := fun l J Jx W hW _ _ hY h0 => by
  have hW' : Kp S w W := Kp.below hW hS
  have hc' := (hW'.cell (p := ⟨Bs, 0, none⟩) hBs).trans hc
  by_cases hl : 0 < len
  · obtain ⟨b, off, rfl, hb, hcs⟩ := hI.below hW' hl
    refine (backward1_in n hn l Bs b off len cap S f hlen hb hBs J Jx hY W hc' hcs h0).mono ?_
    rintro e W' ⟨he, ⟨ys, hy, hj⟩ | ⟨pre, hj⟩⟩
    · exact ⟨he, .inl ⟨_, hy, hj⟩⟩
    · exact ⟨he, .inr ⟨_, trivial, hj⟩⟩
  · obtain rfl : len = 0 := by omega
    exact (backward1_nil_in n l Bs A cap (J []) W hc' h0).mono fun e W' ⟨he, hj⟩ => ⟨he, .inl ⟨_, rfl, hj⟩⟩
/-- A row that is read begins at a plain address. -/
theorem read_plain {α : Type} {d : Kd α} {W : World} {A : Option Addr} {xs : List α} (h : d.C W A xs.length xs) (hp : 0 < xs.length) (hs : 0 < d.sz) :
    ∃ b o, A = some ⟨b, o, none⟩ ∧ ∀ j x, xs[j]? = some x → ∃ c, c.length = d.sz ∧ d.K W x c ∧ ∀ t u, c[t]? = some u → W.cell? ⟨b, o + j * d.sz + t, none⟩ = some u := by
  obtain ⟨⟨b, o, sp⟩, hA, hc⟩ := h.2.2 hp
  subst hA
  obtain ⟨c, hcl, _, hcc⟩ := hc 0 _ (List.getElem?_eq_getElem hp)
  have h0 := hcc 0 _ (List.getElem?_eq_getElem (by omega))
  have hsp : sp = none := by
    cases sp with
    | none => rfl
    | some s => simp [Addr.add, World.cell?] at h0; split at h0 <;> cases h0
  subst hsp
  refine ⟨b, o, rfl, fun j x hj => ?_⟩
  obtain ⟨c, hcl, hk, hcc⟩ := hc j x hj
  refine ⟨c, hcl, hk, fun t u hu => ?_⟩
  have := hcc t u hu
  rw [show (⟨b, o, none⟩ : Addr).add (j * d.sz + t) = ⟨b, o + j * d.sz + t, none⟩ by unfold Addr.add; split <;> simp <;> omega] at this
  exact this

theorem strings_cells {W : World} {b o : Nat} {xs : List ByteArray} (h : ∀ j x, xs[j]? = some x → ∃ c, c.length = Kd.string.sz ∧ Kd.string.K W x c ∧ ∀ t u, c[t]? = some u → W.cell? ⟨b, o + j * Kd.string.sz + t, none⟩ = some u) :
    ∀ j, j < xs.length → W.cell? ⟨b, o + j, none⟩ = some (.string (xs.getD j ByteArray.empty)) := fun j hj => by
  obtain ⟨c, _, hk, hcc⟩ := h j _ (List.getElem?_eq_getElem hj)
  have hk : c = [Value.string xs[j]] := hk
  subst hk
  have := hcc 0 _ rfl
  simp only [show Kd.string.sz = 1 from rfl, Nat.mul_one, Nat.add_zero] at this
  rw [this, List.getD_eq_getElem?_getD, List.getElem?_eq_getElem hj]
  rfl

theorem R_of_own {w : World} {base : Nat} {v : Value} {xs : List ByteArray} (h : w.ownsRow base 9 1 v xs.length (xs.map Value.string)) : Kd.string.R 9 w base (fun _ => True) v xs :=
  ⟨fun _ _ => trivial, xs.map Value.string, h, by simp [show Kd.string.sz = 1 from rfl], fun j p hj => by
    have hjl := (List.getElem?_eq_some_iff.1 hj).1
    show List.take 1 (List.drop (j * 1) (xs.map Value.string)) = [Value.string p]
    rw [Nat.mul_one, List.drop_eq_getElem_cons (by simpa using hjl)]
    simp [(List.getElem?_eq_some_iff.1 hj).2]⟩

theorem clone_str (A : Option Addr) (c : Nat) (xs : List ByteArray) (W : World) (h : Kd.string.C W A xs.length xs) (hl : xs.length * 16 ≤ 140737488355328) :
    Calls Try.prog 28 #[.slice A xs.length c] W fun e w' => ∃ v, e = .returned v ∧ Kd.string.R 9 w' W.heap.size (fun _ => True) v xs ∧ Below W.heap.size W w' := by
  by_cases hp : 0 < xs.length
  · obtain ⟨b, o, rfl, hc⟩ := read_plain h hp (by decide)
    refine (Try.slices_Clone_string b o xs.length c xs W (Nat.le_refl _) hl (strings_cells hc)).mono ?_
    rintro e w' ⟨v, rfl, ho, _, hb⟩
    rw [List.take_length] at ho
    exact ⟨v, rfl, R_of_own ho, hb⟩
  · obtain rfl : xs = [] := List.eq_nil_of_length_eq_zero (by omega)
    cases A with
    | none =>
      refine (Try.slices_Clone_string_nil 0 c W).mono ?_
      rintro e w' ⟨rfl, rfl⟩
      exact ⟨_, rfl, Kd.R_nil _ _ _ _ _, Below.refl _ _⟩
    | some a =>
      refine (Try.slices_Clone_string_zero a c W).mono ?_
      rintro e w' ⟨v, rfl, ho, _, hb⟩
      exact ⟨v, rfl, R_of_own (xs := []) ho, hb⟩

theorem child_cells {W : World} {ok : Nat → Prop} {A : Option Addr} {l : List S44} (h : Kd.F k44 W ok A l.length l) : ∃ f, CellsOf W ok A l.length f ∧
    ∀ j (hj : j < l.length), ∃ A2 c2, f j = (.string l[j].f0, .string l[j].f1, .slice A2 l[j].f2.length c2, .bool l[j].f3, .int .i64 l[j].f4) ∧ Kd.F Kd.string W ok A2 l[j].f2.length l[j].f2 ∧ l[j].f2.length ≤ c2 := by
  have key : ∀ j, ∃ q : Value × Value × Value × Value × Value, ∀ (hj : j < l.length), ∃ b o A2 c2, A = some ⟨b, o, none⟩ ∧ ok b ∧ q = (.string l[j].f0, .string l[j].f1, .slice A2 l[j].f2.length c2, .bool l[j].f3, .int .i64 l[j].f4) ∧ Kd.F Kd.string W ok A2 l[j].f2.length l[j].f2 ∧ l[j].f2.length ≤ c2 ∧
      (W.cell? ⟨b, o + j * 5, none⟩ = some q.1 ∧ W.cell? ⟨b, o + j * 5 + 1, none⟩ = some q.2.1 ∧ W.cell? ⟨b, o + j * 5 + 2, none⟩ = some q.2.2.1 ∧ W.cell? ⟨b, o + j * 5 + 3, none⟩ = some q.2.2.2.1 ∧ W.cell? ⟨b, o + j * 5 + 4, none⟩ = some q.2.2.2.2) := by
    intro j
    by_cases hj : j < l.length
    · obtain ⟨b, o, hA, _⟩ := read_plain (Kd.F_now h) (by omega) (by decide)
      obtain ⟨ad, c, hA', hcl, hK, hcc, hok⟩ := Kd.F_get h default (j : Int) (by omega) (by omega)
      rw [hA] at hA'
      injection hA' with hA'
      subst hA'
      simp only [Int.toNat_natCast] at hK hcc
      rw [show l.getD j default = l[j] by rw [List.getD_eq_getElem?_getD, List.getElem?_eq_getElem hj]; rfl] at hK
      obtain ⟨A2, c2, rfl, h2, g2⟩ := k44_openF hK
      have hc' : ∀ t u, ([Value.string l[j].f0, .string l[j].f1, .slice A2 l[j].f2.length c2, .bool l[j].f3, .int .i64 l[j].f4] : List Value)[t]? = some u → W.cell? ⟨b, o + j * 5 + t, none⟩ = some u := fun t u hu => by
        have := hcc t u hu
        rw [show (⟨b, o, none⟩ : Addr).add (j * k44.sz + t) = ⟨b, o + j * 5 + t, none⟩ by show (⟨b, o, none⟩ : Addr).add (j * 5 + t) = _; unfold Addr.add; split <;> simp <;> omega] at this
        exact this
      exact ⟨(.string l[j].f0, .string l[j].f1, .slice A2 l[j].f2.length c2, .bool l[j].f3, .int .i64 l[j].f4), fun _ => ⟨b, o, A2, c2, hA, hok (by decide), rfl, g2, h2, hc' 0 _ rfl, hc' 1 _ rfl, hc' 2 _ rfl, hc' 3 _ rfl, hc' 4 _ rfl⟩⟩
    · exact ⟨(undef, undef, undef, undef, undef), fun h => absurd h hj⟩
  obtain ⟨f, hf⟩ := Classical.axiomOfChoice key
  refine ⟨f, fun hp => ?_, fun j hj => ?_⟩
  · obtain ⟨b, o, hA, _⟩ := read_plain (Kd.F_now h) hp (by decide)
    obtain ⟨b', o', _, _, hA', hok, _⟩ := hf 0 hp
    rw [hA] at hA'
    injection hA' with hA'
    injection hA' with e1 e2
    refine ⟨b, o, hA, e1 ▸ hok, fun j hj => ?_⟩
    obtain ⟨b2, o2, _, _, hA2, _, _, _, _, hc⟩ := hf j hj
    rw [hA] at hA2
    injection hA2 with hA2
    injection hA2 with e1 e2
    subst e1 e2
    exact hc
  · obtain ⟨_, _, A2, c2, _, _, he, g2, h2, _⟩ := hf j hj
    exact ⟨A2, c2, he, g2, h2⟩
end Go.Proofs.Yteamocejpankdaa
