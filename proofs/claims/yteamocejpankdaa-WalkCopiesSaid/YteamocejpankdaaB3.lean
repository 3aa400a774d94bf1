/- Few, as a plain test of the rooms; rooms of which it holds are few. Plain Lean. -/
import Derived.Test.YteamocejpankdaaB2
import Derived.Test.YteamocejpankdaaB1
namespace Go.Proofs.Yteamocejpankdaa
open Go.Proofs.YteamocejpankdaaW.PrintLast Go.RowKit Go.Shelf Go.Proofs.YteamocejpankdaaW.PrintWords Go.Proofs.Yteamocejpankdaa.PWalkCopies
set_option linter.unusedVariables false
set_option linter.unusedSimpArgs false

def fewC (c : S44) : Bool := decide (c.f0.size ≤ 150) && decide (c.f2.length ≤ 8)
def fewR (f : S41) : Bool := decide (f.f2.length ≤ 12) && (decide (f.f0.size ≤ 150) && f.f2.all fewC)
def fewB (l : List S41) : Bool := l.all fewR && decide (l.length ≤ 16)
theorem rd41 {l : List S41} {i : Nat} (h : i < l.length) : rd_T41 l (i : Int) = l[i] := by
  simp [rd_T41, List.getD_eq_getElem?_getD, h]
theorem rd44 {l : List S44} {i : Nat} (h : i < l.length) : rd_T44 l (i : Int) = l[i] := by
  simp [rd_T44, List.getD_eq_getElem?_getD, h]
theorem few_l1 (l : List S41) (x8 : Int) (i : Nat) (b : Bool) (kids : List S44) (hk : kids.length ≤ 9223372036854775807) (hnext : ∃ k0, ∀ k, k0 ≤ k → enfiladelaw20_Few.l0 k l l x8 (wrap64 ((i : Int) + 1)) = some b) :
    ∀ n j, kids.length - j = n → j ≤ kids.length → ∃ k0, ∀ k, k0 ≤ k → enfiladelaw20_Few.l1 k l l x8 (i : Int) kids (kids.length : Int) (j : Int) = some ((kids.drop j).all fewC && b) := by
  intro n
  induction n with
  | zero =>
    intro j h1 h2
    obtain ⟨k0, h0⟩ := hnext
    refine ⟨k0 + 1, fun k hk => ?_⟩
    obtain ⟨k, rfl⟩ : ∃ m, k = m + 1 := ⟨k - 1, by omega⟩
    have e : j = kids.length := by omega
    subst e
    simp only [enfiladelaw20_Few.l1]
    rw [if_neg (by omega), h0 k (by omega), List.drop_eq_nil_of_le (Nat.le_refl _)]
    rfl
  | succ n ih =>
    intro j h1 h2
    have hj : j < kids.length := by omega
    obtain ⟨k0, h0⟩ := ih (j + 1) (by omega) (by omega)
    refine ⟨k0 + 1, fun k hk => ?_⟩
    obtain ⟨k, rfl⟩ : ∃ m, k = m + 1 := ⟨k - 1, by omega⟩
    simp only [enfiladelaw20_Few.l1]
    rw [if_pos (by omega), if_pos (by omega), if_pos (by omega), rd44 hj, List.drop_eq_getElem_cons hj, List.all_cons]
    have e : fewC kids[j] = (decide (kids[j].f0.size ≤ 150) && decide (kids[j].f2.length ≤ 8)) := rfl
    rw [e]
    by_cases c1 : (kids[j].f0.size : Int) > 150
    · rw [if_pos c1, decide_eq_false (by omega)]; rfl
    · rw [if_neg c1, decide_eq_true (show kids[j].f0.size ≤ 150 by omega)]
      by_cases c2 : (kids[j].f2.length : Int) > 8
      · rw [if_pos c2, decide_eq_false (by omega)]; rfl
      · rw [if_neg c2, decide_eq_true (show kids[j].f2.length ≤ 8 by omega), show wrap64 ((j : Int) + 1) = ((j + 1 : Nat) : Int) by unfold wrap64; omega, h0 k (by omega)]
        rfl
theorem few_l0 (l : List S41) (hl : l.length ≤ 9223372036854775807) (hc : ∀ f ∈ l, f.f2.length ≤ 9223372036854775807) : ∀ n i, l.length - i = n → i ≤ l.length → ∃ k0, ∀ k, k0 ≤ k → enfiladelaw20_Few.l0 k l l (l.length : Int) (i : Int) = some ((l.drop i).all fewR && decide (l.length ≤ 16)) := by
  intro n
  induction n with
  | zero =>
    intro i h1 h2
    refine ⟨1, fun k hk => ?_⟩
    obtain ⟨k, rfl⟩ : ∃ m, k = m + 1 := ⟨k - 1, by omega⟩
    have e : i = l.length := by omega
    subst e
    simp only [enfiladelaw20_Few.l0]
    rw [if_neg (by omega), List.drop_eq_nil_of_le (Nat.le_refl _)]
    congr 1
    rw [List.all_nil, Bool.true_and]
    by_cases c : l.length ≤ 16
    · rw [decide_eq_true c, decide_eq_true (by omega)]
    · rw [decide_eq_false c, decide_eq_false (by omega)]
  | succ n ih =>
    intro i h1 h2
    have hi : i < l.length := by omega
    obtain ⟨k0, h0⟩ := ih (i + 1) (by omega) (by omega)
    have hw : wrap64 ((i : Int) + 1) = ((i + 1 : Nat) : Int) := by unfold wrap64; omega
    obtain ⟨k1, h3⟩ := few_l1 l (l.length : Int) i _ l[i].f2 (hc _ (List.getElem_mem hi)) ⟨k0, fun k hk => by rw [hw]; exact h0 k hk⟩ l[i].f2.length 0 (by omega) (by omega)
    refine ⟨k1 + 2, fun k hk => ?_⟩
    obtain ⟨k, rfl⟩ : ∃ m, k = m + 2 := ⟨k - 2, by omega⟩
    have h3 := h3 k (by omega)
    simp only [enfiladelaw20_Few.l0]
    rw [if_pos (by omega), if_pos (by omega), if_pos (by omega), rd41 hi, List.drop_eq_getElem_cons hi, List.all_cons]
    have e : fewR l[i] = (decide (l[i].f2.length ≤ 12) && (decide (l[i].f0.size ≤ 150) && l[i].f2.all fewC)) := rfl
    rw [e]
    by_cases c1 : (l[i].f2.length : Int) > 12
    · rw [if_pos c1, decide_eq_false (show ¬ l[i].f2.length ≤ 12 by omega)]
      simp only [enfiladelaw20_Few.j1]
      rfl
    · rw [if_neg c1, decide_eq_true (show l[i].f2.length ≤ 12 by omega)]
      simp only [enfiladelaw20_Few.j1]
      by_cases c2 : (l[i].f0.size : Int) > 150
      · rw [if_pos (by simp [c2]), decide_eq_false (show ¬ l[i].f0.size ≤ 150 by omega)]
        rfl
      · rw [if_neg (by simp; omega), decide_eq_true (show l[i].f0.size ≤ 150 by omega)]
        refine h3.trans ?_
        rw [List.drop_zero, Bool.true_and, Bool.true_and, Bool.and_assoc]
theorem few_f (l : List S41) (hl : l.length ≤ 9223372036854775807) (hc : ∀ f ∈ l, f.f2.length ≤ 9223372036854775807) : ∃ k, enfiladelaw20_Few.f k l = some (fewB l) := by
  obtain ⟨k, h⟩ := few_l0 l hl hc l.length 0 (by omega) (by omega)
  refine ⟨k, ?_⟩
  have := h k (Nat.le_refl _)
  rw [List.drop_zero] at this
  exact this

theorem askM_or (l : List S41) (room : ByteArray) : (askM l room = (1, []) ∧ ∀ f ∈ l, f.f0 ≠ room) ∨ ∃ f ∈ l, f.f0 = room ∧ askM l room = (f.f1, f.f2) := by
  induction l with
  | nil => exact .inl ⟨rfl, fun _ h => by cases h⟩
  | cons f l ih =>
    unfold askM
    by_cases h : f.f0 = room
    · rw [if_pos h]; exact .inr ⟨f, List.mem_cons_self, h, rfl⟩
    · rw [if_neg h]
      rcases ih with ⟨h1, h2⟩ | ⟨g, hg, h1, h2⟩
      · exact .inl ⟨h1, fun g hg => by rcases List.mem_cons.1 hg with rfl | hg; exact h; exact h2 g hg⟩
      · exact .inr ⟨g, List.mem_cons_of_mem _ hg, h1, h2⟩
theorem fewF_of {l : List S41} (h : fewB l = true) : FewF (askM l) (l.map S41.f0) := by
  unfold fewB at h
  simp only [Bool.and_eq_true, List.all_eq_true] at h
  have hr : ∀ f ∈ l, f.f2.length ≤ 12 ∧ f.f0.size ≤ 150 ∧ ∀ c ∈ f.f2, c.f0.size ≤ 150 ∧ c.f2.length ≤ 8 := by
    intro f hf
    have := h.1 f hf
    unfold fewR fewC at this
    simp only [Bool.and_eq_true, List.all_eq_true, decide_eq_true_eq] at this
    exact ⟨this.1, this.2.1, this.2.2⟩
  refine ⟨fun room hne => ?_, fun room => ?_, fun room => ?_⟩
  · rcases askM_or l room with ⟨h1, _⟩ | ⟨f, hf, h1, _⟩
    · rw [h1] at hne; exact absurd rfl hne
    · rw [← h1]; exact List.mem_map_of_mem hf
  · rcases askM_or l room with ⟨h1, _⟩ | ⟨f, hf, _, h1⟩
    · rw [h1]; exact Nat.zero_le _
    · rw [h1]; exact (hr f hf).1
  · rcases askM_or l room with ⟨h1, _⟩ | ⟨f, hf, _, h1⟩
    · rw [h1]; exact fun c hc => by cases hc
    · rw [h1]; exact (hr f hf).2.2
theorem fewOk_of {l : List S41} (h : fewB l = true) : FOk (askM l) := fun room => by
  have := fewF_of h
  exact ⟨Nat.le_trans (this.kids room) (by decide), fun c hc => ⟨Nat.le_trans (this.each room c hc).1 (by decide), Nat.le_trans (this.each room c hc).2 (by decide)⟩⟩
theorem few_len {l : List S41} (h : fewB l = true) : l.length ≤ 16 := by
  unfold fewB at h
  simp only [Bool.and_eq_true, decide_eq_true_eq] at h
  exact h.2
theorem yet_le (R L : List ByteArray) : yet R L ≤ R.length := List.length_filter_le _ _
/-- What a walk from a root tells, where rooms are few. -/
theorem few_tells {l : List S41} (h : fewB l = true) {root : ByteArray} (hr : root.size ≤ 150) {depth : Int} (hd0 : 0 ≤ depth) (hd : depth ≤ 10) (sug : Bool) :
    ∃ out, Tells (askM l) depth sug [⟨root, 0, []⟩] [] out ∧ out.length ≤ 300 ∧ ∀ s ∈ out, Good depth s := by
  have hF := fewF_of h
  have hl := few_len h
  have hy := yet_le (l.map S41.f0) []
  rw [List.length_map] at hy
  obtain ⟨out, h1, h2, h3⟩ := tells_exist (sug := sug) hF hd 300 [⟨root, 0, []⟩] [] (by unfold mu; simp only [List.length_singleton]; omega)
    (fun s hs => by rw [List.mem_singleton] at hs; subst hs; exact ⟨hr, Int.le_refl _, hd0, Nat.zero_le _⟩) (by unfold nu; simp only [List.length_singleton, List.length_nil]; omega)
  exact ⟨out, h1, h2, h3⟩
end Go.Proofs.Yteamocejpankdaa
