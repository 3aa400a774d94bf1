/- awake: the document's example answers true. For every world. -/
import Derived.Test.YteamocejpankdaaA11
namespace Go.Proofs.Yteamocejpankdaa
open Go.Proofs.YteamocejpankdaaW.PrintLast Go.RowKit Go.Shelf Go.Proofs.YteamocejpankdaaW.PrintWords Go.Proofs.Yteamocejpankdaa.PWalkCopies
set_option linter.unusedVariables false
set_option linter.unusedSimpArgs false
set_option maxRecDepth 100000 in
theorem newB_awake : newB tS 5 = true := by kernel_rfl
theorem awakeF_ok : FOk awakeF := by
  have hk : ∀ b : ByteArray, (kid b).f2.length ≤ 1000000 := fun b => by simp [kid]
  intro room
  unfold awakeF
  split
  · refine ⟨by simp, fun c hc => ?_⟩
    simp only [List.mem_cons, List.not_mem_nil, or_false] at hc
    rcases hc with rfl | rfl <;> exact ⟨by decide, hk _⟩
  · split
    · refine ⟨by simp, fun c hc => ?_⟩
      simp only [List.mem_cons, List.not_mem_nil, or_false] at hc
      subst hc
      exact ⟨by decide, hk _⟩
    · exact ⟨by simp, fun c hc => by simp at hc⟩
theorem awake_fn (w : World) : AskFn 17 #[] awakeF w where
  enters := enters_of Try.func17 (by kernel_rfl) rfl
  tells := fun room A2 c2 via W hk hr hC => by
    refine (awake1_calls W room A2 via.length c2).mono ?_
    rintro e W' ⟨A', c', rfl, h1, h2, h3⟩
    exact ⟨A', c', rfl, h1, h2, h3⟩
theorem awake_tells : Tells awakeF 5 false [⟨tS, 0, []⟩] [] [⟨tS, 0, []⟩, ⟨tA, 1, []⟩, ⟨tB, 2, []⟩] := by
  have h1 : nextM awakeF 5 false [⟨tS, 0, []⟩] [] = ([⟨tA, 1, []⟩, ⟨tB, 1, []⟩], [tS], some (⟨tS, 0, []⟩, 2)) := by kernel_rfl
  have h2 : nextM awakeF 5 false [⟨tA, 1, []⟩, ⟨tB, 1, []⟩] [tS] = ([⟨tB, 2, []⟩, ⟨tB, 1, []⟩], [tA, tS], some (⟨tA, 1, []⟩, 2)) := by kernel_rfl
  have h3 : nextM awakeF 5 false [⟨tB, 2, []⟩, ⟨tB, 1, []⟩] [tA, tS] = ([⟨tB, 1, []⟩], [tB, tA, tS], some (⟨tB, 2, []⟩, 2)) := by kernel_rfl
  have h4 : nextM awakeF 5 false [⟨tB, 1, []⟩] [tB, tA, tS] = ([], [tB, tA, tS], none) := by kernel_rfl
  have hok : ∀ (b : ByteArray) (d : Int), b.size ≤ maxLen → 0 ≤ d → d ≤ 2 → SOk ⟨b, d, []⟩ := fun b d h h0 h2 => ⟨h, h0, by show d ≤ 1000000; omega, Nat.zero_le _⟩
  have q1 : tS.size ≤ maxLen := by decide
  have q2 : tA.size ≤ maxLen := by decide
  have q3 : tB.size ≤ maxLen := by decide
  refine .tell ⟨?_, by simp⟩ h1 (.tell ⟨?_, by simp⟩ h2 (.tell ⟨?_, by simp⟩ h3 (.stop ⟨?_, by simp⟩ (by rw [h4]; simp))))
  all_goals
    intro s hs
    simp only [List.mem_cons, List.not_mem_nil, or_false] at hs
    first
      | (rcases hs with rfl | rfl <;> (apply hok <;> first | assumption | decide))
      | (subst hs; apply hok <;> first | assumption | decide)

set_option maxRecDepth 100000 in
set_option maxHeartbeats 1000000 in
theorem awake_calls (W : World) : Calls Try.prog 6 #[] W fun e W' => e = .returned (.bool true) ∧ Kept W W' (fun _ => False) := by
  go_enter Try.func6, Try.ntmps6
  go_wp2_with fail
  refine (all_walk_calls W tS 5 false (by decide) 17 #[] awakeF W (Kept.refl _ _) (awake_fn W) awakeF_ok _ (fun _ => awake_tells) (by simp) [⟨tS, 0, []⟩, ⟨tA, 1, []⟩, ⟨tB, 2, []⟩] (by rw [if_pos newB_awake])).mono ?_
  rintro e w1 ⟨v, rfl, hR, hk⟩
  obtain ⟨g, cap, hv, hg, hlt, _⟩ := Kd.R_form hR (by simp)
  replace hv : v = .slice (some ⟨g, 0, none⟩) 3 cap := hv
  subst hv
  have hle : 3 ≤ cap := (Kd.R_reads' hR).2.1
  obtain ⟨c0, hc0, hM0, hcc0, _⟩ := Kd.R_elem hR default 0 (by omega) (by simp)
  obtain ⟨c1, hc1, hM1, hcc1, _⟩ := Kd.R_elem hR default 1 (by omega) (by simp)
  obtain ⟨c2, hc2, hM2, hcc2, _⟩ := Kd.R_elem hR default 2 (by omega) (by simp)
  obtain ⟨_, rfl, _⟩ := k38_openM hM0
  obtain ⟨_, rfl, _⟩ := k38_openM hM1
  obtain ⟨_, rfl, _⟩ := k38_openM hM2
  have p0 : w1.cell? ⟨g, 0, none⟩ = some (.string tS) := hcc0 0 _ rfl
  have p1 : w1.cell? ⟨g, 3, none⟩ = some (.string tA) := hcc1 0 _ rfl
  have p2 : w1.cell? ⟨g, 6, none⟩ = some (.string tB) := hcc2 0 _ rfl
  have p3 : w1.cell? ⟨g, 7, none⟩ = some (.int .i64 2) := hcc2 1 _ rfl
  have t1 : tS.toList = [33, 115, 58, 120] := by rw [ByteArray.toList_eq]; rfl
  have t2 : tA.toList = [33, 97, 58, 120] := by rw [ByteArray.toList_eq]; rfl
  have t3 : tB.toList = [33, 98, 58, 120] := by rw [ByteArray.toList_eq]; rfl
  have HK := Lib.hid hk; clear hk
  clear hM0 hM1 hM2 hcc0 hcc1 hcc2 hR
  go_wp2_with fail
  go_ret
  exact ⟨rfl, HK.out⟩
end Go.Proofs.Yteamocejpankdaa
