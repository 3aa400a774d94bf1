/- What a walk tells: no room twice, each but the root below one that was told ahead. Plain Lean. -/
import Derived.Test.YteamocejpankdaaB3
namespace Go.Proofs.Yteamocejpankdaa
open Go.Proofs.YteamocejpankdaaW.PrintLast Go.RowKit Go.Shelf Go.Proofs.YteamocejpankdaaW.PrintWords Go.Proofs.Yteamocejpankdaa.PWalkCopies
set_option linter.unusedVariables false
set_option linter.unusedSimpArgs false

theorem nextM_tell (F : ByteArray → Int × List S44) (dep : Int) (sug : Bool) : ∀ (row : List S38) (L : List ByteArray) row' L' s, nextM F dep sug row L = (row', L', some (s, 2)) →
    ∃ p rest, row = p ++ s :: rest ∧ row' = belowM dep sug s.f1 (F s.f0).2 ++ rest ∧ s.f0 ∉ L ∧ s.f0 ∈ L' ∧ (∀ x ∈ L, x ∈ L') ∧ (∀ x ∈ L', x ∈ L ∨ x = s.f0 ∨ ∃ q ∈ p, q.f0 = x) := by
  intro row
  induction row with
  | nil => intro L row' L' s h; simp [nextM] at h
  | cons x rest ih =>
    intro L row' L' s h
    unfold nextM at h
    split at h
    · obtain ⟨p, r, h1, h2, h3, h4, h5, h6⟩ := ih _ _ _ _ h
      refine ⟨x :: p, r, by rw [h1]; rfl, h2, h3, h4, h5, fun y hy => ?_⟩
      rcases h6 y hy with h | h | ⟨q, hq, h⟩
      · exact .inl h
      · exact .inr (.inl h)
      · exact .inr (.inr ⟨q, List.mem_cons_of_mem _ hq, h⟩)
    · rename_i hm
      split at h
      · simp at h
      · split at h
        · simp only [Prod.mk.injEq, Option.some.injEq, and_true] at h
          obtain ⟨rfl, rfl, rfl⟩ := h
          refine ⟨[], rest, rfl, rfl, fun hin => hm (memB_iff.2 hin), List.mem_cons_self, fun y hy => List.mem_cons_of_mem _ hy, fun y hy => ?_⟩
          rcases List.mem_cons.1 hy with h | h
          · exact .inr (.inl h)
          · exact .inl h
        · obtain ⟨p, r, h1, h2, h3, h4, h5, h6⟩ := ih _ _ _ _ h
          refine ⟨x :: p, r, by rw [h1]; rfl, h2, fun hin => h3 (List.mem_cons_of_mem _ hin), h4, fun y hy => h5 y (List.mem_cons_of_mem _ hy), fun y hy => ?_⟩
          rcases h6 y hy with h | h | ⟨q, hq, h⟩
          · rcases List.mem_cons.1 h with h | h
            · exact .inr (.inr ⟨x, List.mem_cons_self, h.symm⟩)
            · exact .inl h
          · exact .inr (.inl h)
          · exact .inr (.inr ⟨q, List.mem_cons_of_mem _ hq, h⟩)
/-- Is a step a child's of one told ahead? -/
def childB (F : ByteArray → Int × List S44) (sug : Bool) (s p : S38) : Bool := (F p.f0).2.any fun c => decide (c.f0 = s.f0) && (decide (p.f1 = s.f1 - 1) && counts sug c)
def foundB (F : ByteArray → Int × List S44) (sug : Bool) (root : ByteArray) (pre : List S38) (s : S38) : Bool := decide (pre = [] ∧ s.f0 = root ∧ s.f1 = 0) || pre.any (childB F sug s)
def RInv (F : ByteArray → Int × List S44) (sug : Bool) (root : ByteArray) (pre row : List S38) : Prop := (pre = [] ∧ (row = [⟨root, 0, []⟩] ∨ row = [])) ∨ (pre ≠ [] ∧ ∀ s ∈ row, pre.any (childB F sug s) = true)
theorem tells_law (F : ByteArray → Int × List S44) (dep : Int) (sug : Bool) (root : ByteArray) {row : List S38} {L : List ByteArray} {out : List S38} (h : Tells F dep sug row L out) : ∀ pre : List S38, RInv F sug root pre row → (∀ p ∈ pre, p.f0 ∈ L) → (pre.map S38.f0).Nodup →
    ((pre ++ out).map S38.f0).Nodup ∧ ∀ i (hi : i < out.length), foundB F sug root (pre ++ out.take i) out[i] = true := by
  induction h with
  | stop _ _ =>
    intro pre hR hL hN
    exact ⟨by rw [List.append_nil]; exact hN, fun i hi => by simp at hi⟩
  | tell hok hnx hrest ih =>
    rename_i row L row' L' s out
    intro pre hR hL hN
    obtain ⟨p, rest, h1, h2, h3, h4, h5, _⟩ := nextM_tell F dep sug _ _ _ _ _ hnx
    have hR' : RInv F sug root (pre ++ [s]) row' := by
      refine .inr ⟨by simp, fun x hx => ?_⟩
      rw [h2, List.mem_append] at hx
      rw [List.any_append]
      rcases hx with hx | hx
      · have : childB F sug x s = true := by
          unfold belowM at hx
          split at hx
          · rw [List.mem_map] at hx
            obtain ⟨c, hc, rfl⟩ := hx
            rw [List.mem_filter] at hc
            unfold childB
            rw [List.any_eq_true]
            refine ⟨c, hc.1, ?_⟩
            rw [hc.2]
            simp [stepOf]
          · cases hx
        rw [Bool.or_eq_true]
        exact .inr (by rw [List.any_cons, this]; rfl)
      · rcases hR with ⟨hp, hr | hr⟩ | ⟨hp, hr⟩
        · rw [hr] at h1
          have : p = [] ∧ rest = [] := by
            cases p with
            | nil => simp at h1; exact ⟨rfl, h1.2⟩
            | cons a p => simp at h1
          rw [this.2] at hx
          cases hx
        · rw [hr] at h1; cases p <;> cases h1
        · rw [hr x (by rw [h1]; exact List.mem_append_right _ (List.mem_cons_of_mem _ hx))]; rfl
    have hL' : ∀ q ∈ pre ++ [s], q.f0 ∈ L' := by
      intro q hq
      rcases List.mem_append.1 hq with hq | hq
      · exact h5 _ (hL q hq)
      · rw [List.mem_singleton] at hq; rw [hq]; exact h4
    have hN' : ((pre ++ [s]).map S38.f0).Nodup := by
      rw [List.map_append, List.nodup_append]
      refine ⟨hN, by simp, ?_⟩
      intro a ha b hb hab
      rw [List.map_singleton, List.mem_singleton] at hb
      rw [List.mem_map] at ha
      obtain ⟨q, hq, rfl⟩ := ha
      rw [hb] at hab
      exact h3 (hab ▸ hL q hq)
    obtain ⟨g1, g2⟩ := ih (pre ++ [s]) hR' hL' hN'
    rw [List.append_assoc] at g1
    refine ⟨g1, fun i hi => ?_⟩
    cases i with
    | zero =>
      rw [List.take_zero, List.append_nil, List.getElem_cons_zero]
      unfold foundB
      rcases hR with ⟨hp, hr | hr⟩ | ⟨hp, hr⟩
      · have : s = ⟨root, 0, []⟩ := by
          rw [hr] at h1
          cases p with
          | nil => simp at h1; exact h1.1.symm
          | cons a p => simp at h1
        rw [decide_eq_true ⟨hp, by rw [this], by rw [this]⟩]; rfl
      · rw [hr] at h1; cases p <;> cases h1
      · rw [hr s (by rw [h1]; exact List.mem_append_right _ List.mem_cons_self), Bool.or_true]
    | succ i =>
      have := g2 i (by simpa using hi)
      rw [List.take_succ_cons, List.getElem_cons_succ]
      rw [List.append_assoc] at this
      exact this
/-- What a walk from a root tells: all that WalkAlls asks. -/
theorem alls_law (F : ByteArray → Int × List S44) (dep : Int) (sug : Bool) (root : ByteArray) {out : List S38} (h : Tells F dep sug [⟨root, 0, []⟩] [] out) : (out.map S38.f0).Nodup ∧ ∀ i (hi : i < out.length), foundB F sug root (out.take i) out[i] = true := by
  have := tells_law F dep sug root h [] (.inl ⟨rfl, .inl rfl⟩) (fun _ h => by cases h) List.nodup_nil
  simpa using this
end Go.Proofs.Yteamocejpankdaa
