/- Plain: a walk over rooms of which few have children comes to an end. -/
import Derived.Test.YteamocejpankdaaA8
namespace Go.Proofs.Yteamocejpankdaa
open Go.RowKit Go.Shelf Go.Proofs.YteamocejpankdaaW.PrintWords Go.Proofs.Yteamocejpankdaa.PWalkCopies
set_option linter.unusedVariables false
set_option linter.unusedSimpArgs false
variable {F : ByteArray → Int × List S44} {dep : Int} {sug : Bool}

/-- How many of the rooms are yet to come. -/
def yet (R L : List ByteArray) : Nat := (R.filter fun r => !memB L r).length
theorem yet_cons_le (R L : List ByteArray) (x : ByteArray) : yet R (x :: L) ≤ yet R L := by
  unfold yet
  induction R with
  | nil => simp
  | cons r R ih =>
    rw [List.filter_cons, List.filter_cons]
    by_cases h : memB L r = true
    · have h2 : memB (x :: L) r = true := memB_iff.2 (List.mem_cons_of_mem _ (memB_iff.1 h))
      rw [if_neg (by simp [h2]), if_neg (by simp [h])]
      exact ih
    · by_cases h2 : memB (x :: L) r = true
      · rw [if_neg (by simp [h2]), if_pos (by simp [h])]
        exact Nat.le_succ_of_le ih
      · rw [if_pos (by simp [h2]), if_pos (by simp [h])]
        exact Nat.succ_le_succ ih
theorem yet_cons_lt {R L : List ByteArray} {x : ByteArray} (hx : x ∈ R) (hL : ¬ memB L x = true) : yet R (x :: L) < yet R L := by
  unfold yet
  induction R with
  | nil => cases hx
  | cons r R ih =>
    rw [List.filter_cons, List.filter_cons]
    by_cases hr : r = x
    · subst hr
      rw [if_neg (by simp [memB_iff.2 (List.mem_cons_self)]), if_pos (by simpa using hL)]
      exact Nat.lt_succ_of_le (yet_cons_le R L r)
    · have hx2 : x ∈ R := by
        rcases List.mem_cons.1 hx with h | h
        · exact (hr h.symm).elim
        · exact h
      by_cases h : memB L r = true
      · have h2 : memB (x :: L) r = true := memB_iff.2 (List.mem_cons_of_mem _ (memB_iff.1 h))
        rw [if_neg (by simp [h2]), if_neg (by simp [h])]
        exact ih hx2
      · have h2 : ¬ memB (x :: L) r = true := fun h2 => by
          rcases List.mem_cons.1 (memB_iff.1 h2) with h3 | h3
          · exact hr h3
          · exact h (memB_iff.2 h3)
        rw [if_pos (by simp [h2]), if_pos (by simp [h])]
        exact Nat.succ_lt_succ (ih hx2)

/-- Rooms of which few have children, none of them large. -/
structure FewF (F : ByteArray → Int × List S44) (R : List ByteArray) : Prop where
  only : ∀ room, (F room).2 ≠ [] → room ∈ R
  kids : ∀ room, (F room).2.length ≤ 12
  each : ∀ room, ∀ c ∈ (F room).2, c.f0.size ≤ 150 ∧ c.f2.length ≤ 8
def Good (dep : Int) (s : S38) : Prop := s.f0.size ≤ 150 ∧ 0 ≤ s.f1 ∧ s.f1 ≤ dep ∧ s.f2.length ≤ 8
def mu (R : List ByteArray) (row : List S38) (L : List ByteArray) : Nat := row.length + 13 * yet R L
def nu (R : List ByteArray) (row : List S38) (L : List ByteArray) : Nat := L.length + row.length + 12 * yet R L

theorem below_len (dep : Int) (sug : Bool) (d : Int) (l : List S44) : (belowM dep sug d l).length ≤ l.length := by
  unfold belowM
  split
  · rw [List.length_map]; exact List.length_filter_le _ _
  · simp
theorem below_good {R : List ByteArray} (h : FewF F R) {s : S38} (hs : Good dep s) : ∀ x ∈ belowM dep sug s.f1 (F s.f0).2, Good dep x := by
  intro x hx
  unfold belowM at hx
  split at hx
  next hlt =>
    obtain ⟨c, hc, rfl⟩ := List.mem_map.1 hx
    have hc := (List.mem_filter.1 hc).1
    have he := h.each s.f0 c hc
    exact ⟨he.1, by have := hs.2.1; show 0 ≤ s.f1 + 1; omega, by show s.f1 + 1 ≤ dep; omega, he.2⟩
  next => cases hx

theorem nextM_inv {R : List ByteArray} (h : FewF F R) : ∀ (row : List S38) (L : List ByteArray), (∀ s ∈ row, Good dep s) → (∀ s ∈ (nextM F dep sug row L).1, Good dep s) ∧ nu R (nextM F dep sug row L).1 (nextM F dep sug row L).2.1 ≤ nu R row L ∧
    ∀ s k, (nextM F dep sug row L).2.2 = some (s, k) → Good dep s ∧ (k = 2 → mu R (nextM F dep sug row L).1 (nextM F dep sug row L).2.1 < mu R row L)
  | [], L, hg => ⟨fun s hs => hg s hs, Nat.le_refl _, fun s k e => by simp [nextM] at e⟩
  | s :: rest, L, hg => by
    have hrest : ∀ x ∈ rest, Good dep x := fun x hx => hg x (List.mem_cons_of_mem _ hx)
    have hs := hg s List.mem_cons_self
    unfold nextM
    by_cases h1 : memB L s.f0 = true
    · rw [if_pos h1]
      obtain ⟨a, b, c⟩ := nextM_inv h rest L hrest
      refine ⟨a, Nat.le_trans b (by unfold nu; simp), fun x k e => ⟨(c x k e).1, fun hk => Nat.lt_trans ((c x k e).2 hk) (by unfold mu; simp)⟩⟩
    · rw [if_neg h1]
      by_cases h2 : (F s.f0).1 = 0
      · rw [if_pos h2]
        refine ⟨hg, Nat.le_refl _, fun x k e => ?_⟩
        injection e with e
        injection e with e1 e2
        subst e1; subst e2
        exact ⟨hs, fun hk => by cases hk⟩
      · rw [if_neg h2]
        have key : ∀ (kids : List S38), kids.length ≤ (F s.f0).2.length → 12 * yet R (s.f0 :: L) + kids.length ≤ 12 * yet R L ∧ 13 * yet R (s.f0 :: L) + kids.length < 13 * yet R L + 1 := by
          intro kids hk
          have hk12 := h.kids s.f0
          by_cases hr : s.f0 ∈ R
          · have := yet_cons_lt hr h1
            omega
          · have h0 : (F s.f0).2 = [] := by
              cases he : (F s.f0).2 with
              | nil => rfl
              | cons c cs => exact (hr (h.only s.f0 (by rw [he]; simp))).elim
            rw [h0] at hk
            simp at hk
            have := yet_cons_le R L s.f0
            rw [hk]
            simp
            omega
        by_cases h3 : (F s.f0).1 = 2
        · rw [if_pos h3]
          have hk := key (belowM dep sug s.f1 (F s.f0).2) (below_len _ _ _ _)
          refine ⟨fun x hx => ?_, ?_, fun x k e => ?_⟩
          · rcases List.mem_append.1 hx with hx | hx
            · exact below_good h hs x hx
            · exact hrest x hx
          · unfold nu
            simp only [List.length_append, List.length_cons]
            omega
          · injection e with e
            injection e with e1 e2
            subst e1
            refine ⟨hs, fun _ => ?_⟩
            unfold mu
            simp only [List.length_append, List.length_cons]
            omega
        · rw [if_neg h3]
          obtain ⟨a, b, c⟩ := nextM_inv h rest (s.f0 :: L) hrest
          have hk := key [] (Nat.zero_le _)
          simp only [List.length_nil] at hk
          refine ⟨a, Nat.le_trans b ?_, fun x k e => ⟨(c x k e).1, fun hk2 => Nat.lt_trans ((c x k e).2 hk2) ?_⟩⟩
          · unfold nu; simp only [List.length_cons]; omega
          · unfold mu; simp only [List.length_cons]; omega

theorem okS_of {R : List ByteArray} {row : List S38} {L : List ByteArray} (hd : dep ≤ 10) (hg : ∀ s ∈ row, Good dep s) (hn : nu R row L ≤ 1000) : OkS row L :=
  ⟨fun s hs => by have := hg s hs; exact ⟨Nat.le_trans this.1 (by decide), this.2.1, by have := this.2.2.1; omega, Nat.le_trans this.2.2.2 (by decide)⟩, by unfold nu at hn; omega⟩
theorem tells_exist {R : List ByteArray} (h : FewF F R) (hd : dep ≤ 10) : ∀ (n : Nat) (row : List S38) (L : List ByteArray), mu R row L ≤ n → (∀ s ∈ row, Good dep s) → nu R row L ≤ 1000 → ∃ out, Tells F dep sug row L out ∧ out.length ≤ n ∧ ∀ s ∈ out, Good dep s
  | n, row, L, hn, hg, hu => by
    obtain ⟨a, b, c⟩ := nextM_inv (sug := sug) h row L hg
    by_cases ho : ∃ s, (nextM F dep sug row L).2.2 = some (s, 2)
    · obtain ⟨s, hs⟩ := ho
      have hlt := (c s 2 hs).2 rfl
      cases n with
      | zero => omega
      | succ n =>
        obtain ⟨out, ht, hl, hgo⟩ := tells_exist h hd n _ _ (Nat.le_of_lt_succ (Nat.lt_of_lt_of_le hlt hn)) a (Nat.le_trans b hu)
        refine ⟨s :: out, .tell (okS_of hd hg hu) (Prod.ext rfl (Prod.ext rfl hs)) ht, Nat.succ_le_succ hl, fun x hx => ?_⟩
        rcases List.mem_cons.1 hx with rfl | hx
        · exact (c _ 2 hs).1
        · exact hgo x hx
    · exact ⟨[], .stop (okS_of hd hg hu) (fun s hs => ho ⟨s, hs⟩), Nat.zero_le _, fun s hs => by cases hs⟩
end Go.Proofs.Yteamocejpankdaa
