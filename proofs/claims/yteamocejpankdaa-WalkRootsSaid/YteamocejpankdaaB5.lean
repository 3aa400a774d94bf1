/- A walk's steps one by one; to the depths 0 and 1. Plain Lean. -/
import Derived.Test.YteamocejpankdaaB4
namespace Go.Proofs.Yteamocejpankdaa
open Go.Proofs.YteamocejpankdaaW.PrintLast Go.RowKit Go.Shelf Go.Proofs.YteamocejpankdaaW.PrintWords Go.Proofs.Yteamocejpankdaa.PWalkCopies
set_option linter.unusedVariables false
set_option linter.unusedSimpArgs false

variable {F : ByteArray → Int × List S44} {dep : Int} {sug : Bool}
theorem OkS.tail {s : S38} {rest : List S38} {L : List ByteArray} (h : OkS (s :: rest) L) : OkS rest L := ⟨fun x hx => h.1 x (List.mem_cons_of_mem _ hx), by have := h.2; simp only [List.length_cons] at this; omega⟩
theorem OkS.come {s : S38} {rest : List S38} {L : List ByteArray} (h : OkS (s :: rest) L) : OkS rest (s.f0 :: L) := ⟨fun x hx => h.1 x (List.mem_cons_of_mem _ hx), by have := h.2; simp only [List.length_cons] at this ⊢; omega⟩
theorem tells_same {row row2 : List S38} {L L2 : List ByteArray} {out : List S38} (h : Tells F dep sug row L out) (he : nextM F dep sug row L = nextM F dep sug row2 L2) (ho : OkS row2 L2) : Tells F dep sug row2 L2 out := by
  cases h with
  | stop h1 h2 => exact .stop ho (by rw [← he]; exact h2)
  | tell h1 h2 h3 => exact .tell ho (by rw [← he]; exact h2) h3
theorem tells_came {s : S38} {rest : List S38} {L : List ByteArray} {out : List S38} (h : Tells F dep sug (s :: rest) L out) (hm : memB L s.f0 = true) : Tells F dep sug rest L out :=
  tells_same h (by conv => lhs; unfold nextM
                   rw [if_pos hm]) h.ok.tail
theorem tells_wait {s : S38} {rest : List S38} {L : List ByteArray} {out : List S38} (h : Tells F dep sug (s :: rest) L out) (hm : ¬ memB L s.f0 = true) (hk : (F s.f0).1 = 0) : out = [] := by
  have he : nextM F dep sug (s :: rest) L = (s :: rest, L, some (s, 0)) := by
    conv => lhs; unfold nextM
    rw [if_neg hm, if_pos hk]
  cases h with
  | stop h1 h2 => rfl
  | tell h1 h2 h3 => rw [he] at h2; simp at h2
theorem tells_skip {s : S38} {rest : List S38} {L : List ByteArray} {out : List S38} (h : Tells F dep sug (s :: rest) L out) (hm : ¬ memB L s.f0 = true) (hk : ¬ (F s.f0).1 = 0) (hk2 : ¬ (F s.f0).1 = 2) : Tells F dep sug rest (s.f0 :: L) out :=
  tells_same h (by conv => lhs; unfold nextM
                   rw [if_neg hm, if_neg hk, if_neg hk2]) h.ok.come
theorem tells_told {s : S38} {rest : List S38} {L : List ByteArray} {out : List S38} (h : Tells F dep sug (s :: rest) L out) (hm : ¬ memB L s.f0 = true) (hk2 : (F s.f0).1 = 2) : ∃ out', out = s :: out' ∧ Tells F dep sug (belowM dep sug s.f1 (F s.f0).2 ++ rest) (s.f0 :: L) out' := by
  have he : nextM F dep sug (s :: rest) L = (belowM dep sug s.f1 (F s.f0).2 ++ rest, s.f0 :: L, some (s, 2)) := by
    conv => lhs; unfold nextM
    rw [if_neg hm, if_neg (by rw [hk2]; decide), if_pos hk2]
  cases h with
  | stop h1 h2 => exact absurd (by rw [he]) (h2 s)
  | tell h1 h2 h3 => rw [he] at h2; simp only [Prod.mk.injEq, Option.some.injEq, and_true] at h2; obtain ⟨rfl, rfl, rfl⟩ := h2; exact ⟨_, rfl, h3⟩
theorem tells_nil {L : List ByteArray} {out : List S38} (h : Tells F dep sug [] L out) : out = [] := by
  cases h with
  | stop h1 h2 => rfl
  | tell h1 h2 h3 => simp [nextM] at h2
theorem tells_root_not {root : ByteArray} {out : List S38} (h : Tells F dep sug [⟨root, 0, []⟩] [] out) (hk : ¬ (F root).1 = 2) : out = [] := by
  by_cases h0 : (F root).1 = 0
  · exact tells_wait h (by simp [memB]) h0
  · exact tells_nil (tells_skip h (by simp [memB]) h0 hk)
theorem tells_zero {root : ByteArray} {out : List S38} (h : Tells F 0 sug [⟨root, 0, []⟩] [] out) (hk : (F root).1 = 2) : out = [⟨root, 0, []⟩] := by
  obtain ⟨out', rfl, h'⟩ := tells_told h (by simp [memB]) hk
  rw [show belowM 0 sug (S38.f1 ⟨root, 0, []⟩) (F (S38.f0 ⟨root, 0, []⟩)).2 = [] from if_neg (show ¬ (0 : Int) < 0 by decide)] at h'
  rw [tells_nil h']
theorem tells_one {root : ByteArray} {out : List S38} (h : Tells F 1 sug [⟨root, 0, []⟩] [] out) (hk : (F root).1 = 2) : ∃ out', out = ⟨root, 0, []⟩ :: out' ∧ Tells F 1 sug (((F root).2.filter (counts sug)).map (stepOf 0)) [root] out' := by
  obtain ⟨out', rfl, h'⟩ := tells_told h (by simp [memB]) hk
  refine ⟨out', rfl, ?_⟩
  rw [List.append_nil, show belowM 1 sug (S38.f1 ⟨root, 0, []⟩) (F (S38.f0 ⟨root, 0, []⟩)).2 = ((F root).2.filter (counts sug)).map (stepOf 0) from if_pos (show (0 : Int) < 1 by decide)] at h'
  exact h'
/-- A step of the children's loop, at a child that counts. -/
theorem kids_told {c : S44} {rest : List S38} {L : List ByteArray} {out : List S38} (h : Tells F 1 sug (stepOf 0 c :: rest) L out) (hm : ¬ memB L c.f0 = true) (hk2 : (F c.f0).1 = 2) : ∃ out', out = stepOf 0 c :: out' ∧ Tells F 1 sug rest (c.f0 :: L) out' := by
  obtain ⟨out', rfl, h'⟩ := tells_told h hm hk2
  refine ⟨out', rfl, ?_⟩
  rw [show belowM 1 sug (stepOf 0 c).f1 (F (stepOf 0 c).f0).2 = [] from if_neg (by simp [stepOf]), List.nil_append] at h'
  exact h'
end Go.Proofs.Yteamocejpankdaa
