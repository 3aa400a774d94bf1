/- The law WalkCopies of enfiladelaw20 returns true at every input, and its arguments read as before. No condition. -/
import Derived.Test.YteamocejpankdaaRows
import Derived.Test.YteamocejpankdaaA18
import Derived.Test.YteamocejpankdaaO1
import Derived.WalkKit
import Derived.ProofKit
import Derived.OpenShut
import Derived.ShutString
import Derived.ChangeOld
import Derived.Below
import Derived.SizedLaws
namespace Go.Proofs.Yteamocejpankdaa.walkCopies
open Go.ChangeShapes Go.WideShapes Go.ChangeAt Go.RowKit Go.Proofs.YteamocejpankdaaW.PrintWords Go.Proofs.Yteamocejpankdaa.PWalkCopies
set_option linter.unusedVariables false
theorem own : ownKnob Try.prog.godebug = none := by kernel_rfl
theorem laidOut : laidOutB Try.prog = true := by kernel_rfl
def kWays : Kd (ByteArray × Int × Int × Bool) := Kd.pair Kd.string (Kd.pair (Kd.int .i64) (Kd.pair (Kd.int .i64) Kd.bool))
theorem opens44 : Opens Try.prog k44 44 (fun x => x.f0.size ≤ maxLen) :=
  Opens.mono (opens_iso (fun x : S44 => (x.f0, x.f1, x.f2, x.f3, x.f4)) (fun y => ⟨y.1, y.2.1, y.2.2.1, y.2.2.2.1, y.2.2.2.2⟩) (fun _ => rfl)
    (opens_struct Try.underlying44 (by kernel_rfl) (opensF_cons rfl (by kernel_rfl) (opens_string Try.underlying9) (opensF_cons rfl (by kernel_rfl) (opens_string Try.underlying9) (opensF_cons rfl (by kernel_rfl) (opens_slice Try.underlying34 (by kernel_rfl) (opens_string Try.underlying9)) (opensF_cons rfl (by kernel_rfl) (opens_bool Try.underlying4) (opensF_one rfl (by kernel_rfl) (opens_int Try.underlying3)))))))) (fun x h => h.1)
theorem opens41 : Opens Try.prog k41 41 (fun x => x.f2.length ≤ maxLen) :=
  Opens.mono (opens_iso (fun x : S41 => (x.f0, x.f1, x.f2)) (fun y => ⟨y.1, y.2.1, y.2.2⟩) (fun _ => rfl)
    (opens_struct Try.underlying41 (by kernel_rfl) (opensF_cons rfl (by kernel_rfl) (opens_string Try.underlying9) (opensF_cons rfl (by kernel_rfl) (opens_int Try.underlying3) (opensF_one rfl (by kernel_rfl) (opens_slice Try.underlying39 (by kernel_rfl) opens44)))))) (fun x h => h.2.2.1)
theorem opens22 : Opens Try.prog (Kd.slice 41 k41) 22 (fun l => l.length ≤ maxLen ∧ ∀ f ∈ l, f.f2.length ≤ maxLen) := opens_slice Try.underlying22 (by kernel_rfl) opens41
theorem opens24 : Opens Try.prog kWays 24 (fun x => x.1.size ≤ maxLen) :=
  Opens.mono (opens_struct Try.underlying24 (by kernel_rfl) (opensF_cons rfl (by kernel_rfl) (opens_string Try.underlying9) (opensF_cons rfl (by kernel_rfl) (opens_int Try.underlying3) (opensF_cons rfl (by kernel_rfl) (opens_int Try.underlying3) (opensF_one rfl (by kernel_rfl) (opens_bool Try.underlying4)))))) (fun x h => h.1)
theorem heap44 : Kd.Heap k44 := Kd.heap_iso _ (Kd.heap_pair Kd.heap_string (Kd.heap_pair Kd.heap_string (Kd.heap_pair (Kd.heap_slice _ Kd.heap_string) (Kd.heap_pair Kd.heap_bool (Kd.heap_int _)))))
theorem heap41 : Kd.Heap k41 := Kd.heap_iso _ (Kd.heap_pair Kd.heap_string (Kd.heap_pair (Kd.heap_int _) (Kd.heap_slice _ heap44)))
set_option maxRecDepth 100000 in
theorem lifted (os : Os) (started : os.Started) (H : Type) (enc : TypeId × Value → H) :
    ReturnsInHanded {} Try.checked os 5 .any (Rows.walkCopiesSpec.pre6 enc Try.prog Try.f5 Rows.walkCopiesRow.domain false) (Rows.walkCopiesSpec.post enc Try.prog Try.f5 false true false false) := by
  refine returnsInHanded_of_change_sized (C := Try.checked) own started (by kernel_rfl) Try.func5
    (ChangeSpec.witness6 (enc := enc) (C := Try.checked) false ⟨#[], #[.slice none 0 0, .agg #[.string ByteArray.empty, .int .i64 0, .int .i64 0, .bool false]], []⟩ 8 (by kernel_rfl) (by kernel_rfl) (by kernel_rfl) (by kernel_rfl)) ?_
  intro W base args ds gs before hval0 hW hcnd hsz0 _
  have hval : ∀ (j : Nat) t v, Try.f5.params[j]? = some t → args[j]? = some v → Value.okWide Try.prog W .any base t v := hval0
  have hW' := hW
  obtain ⟨p, q, hA0, hV, rfl, hfz, hnd⟩ := hW
  have hA : DataW.TrodAll enc Try.prog W 0 (fun _ => true) true Try.f5.params.toList args.toList ds p := hA0
  rw [Try.params5] at hA hval
  obtain ⟨v0, v1, d0, d1, p0, p1, rfl, rfl, rfl, h0, h1⟩ := trodAll_two hA
  obtain ⟨rfl, rfl⟩ := trodVars_none hV
  obtain ⟨A, n0, c, rfl⟩ := okWide_slice Try.underlying22 (hval 0 22 v0 rfl rfl)
  obtain ⟨cs, rfl, hcs⟩ := okWide_struct Try.underlying24 (hval 1 24 v1 rfl rfl)
  have k0 := h0
  have k1 := h1
  have lt0 : ∀ x ∈ p0, x.block < W.heap.size := by obtain ⟨m, hm⟩ := k0; exact DataW.trod_lt m _ _ _ hm
  have lt1 : ∀ x ∈ p1, x.block < W.heap.size := by obtain ⟨m, hm⟩ := k1; exact DataW.trod_lt m _ _ _ hm
  obtain ⟨f0, h0⟩ := h0
  obtain ⟨l, ⟨A', c', he, hlc, hC⟩, hl, hll⟩ := opens22 _ _ _ _ _ _ _ _ _ h0
  have he : [Value.slice A n0 c] = [.slice A' l.length c'] := he
  injection he with he _
  injection he with e1 e2 e3
  subst e1 e2 e3
  obtain ⟨f1, h1⟩ := h1
  obtain ⟨⟨root, depth, frm, sug⟩, ⟨c0, c1, g0, g1, c2, c3, g2, g3, c4, c5, g4, g5, g6⟩, hr⟩ := opens24 _ _ _ _ _ _ _ _ _ h1
  have g0 : cs.toList = c0 ++ c1 := g0
  have g1 : c0 = [.string root] := g1
  have g3 : c2 = [.int .i64 depth] := g3
  have g5 : c4 = [.int .i64 frm] := g5
  have g6 : c5 = [.bool sug] := g6
  have hcs2 : cs = #[.string root, .int .i64 depth, .int .i64 frm, .bool sug] := by
    apply Array.toList_inj.1
    rw [g0, g2, g4, g1, g3, g5, g6]
    rfl
  subst hcs2
  clear hA0 hval0 hsz0
  have hVl : Kd.V k41 41 W 0 (fun k => k < W.heap.size) (.slice A l.length c) l := Kd.V_mk hlc (Kd.C_F heap41 hC)
  refine (walkCopies_calls W A c l _ hVl root depth frm sug hl hll hr).mono fun e W' ⟨he, hk⟩ => ?_
  have bel := hk.to_below
  subst he
  exact ⟨_, rfl, _, _, _, [], _, [], hW', trodAll_mk1 (shut_bool Try.underlying4 _), trodAll_mk2 (Below.trod laidOut (by kernel_rfl) (of_decide_eq_true (by kernel_rfl)) k0 bel lt0) (Below.trod laidOut (by kernel_rfl) (of_decide_eq_true (by kernel_rfl)) k1 bel lt1), rfl, bel.frame _, fun h => by cases h⟩
theorem over : Rows.walkCopiesRow.holds Try.pinned (OpenSpec.ofChange Rows.walkCopiesSpec) :=
  OpenClaim.holds_of_wide 5 Try.f5 rfl rfl rfl rfl rfl rfl rfl ⟨rfl, rfl, rfl, rfl, rfl⟩ rfl rfl rfl rfl rfl (by kernel_rfl) Try.func5 (by kernel_rfl)
    (of_decide_eq_true (by kernel_rfl)) (by unfold Func.isWrapper; first | (rw [if_pos (by decide +kernel)]; kernel_rfl) | (rw [if_neg (by decide +kernel)]; exact ⟨rfl, rfl⟩))
    (fun os started H enc _ => lifted os started H enc)
end Go.Proofs.Yteamocejpankdaa.walkCopies
namespace Go.Proofs.Yteamocejpankdaa
theorem walkCopies_holds : Rows.WalkCopiesSaid := walkCopies.over
end Go.Proofs.Yteamocejpankdaa
