/- The walk's New and All: what they hand back. For every world. -/
import Derived.Test.YteamocejpankdaaA6
namespace Go.Proofs.Yteamocejpankdaa
open Go.Proofs.YteamocejpankdaaW.PrintLast Go.RowKit Go.Shelf Go.Proofs.YteamocejpankdaaW.PrintWords Go.Proofs.Yteamocejpankdaa.PWalkCopies
set_option linter.unusedVariables false
set_option linter.unusedSimpArgs false

def newB (root : ByteArray) (depth : Int) : Bool := roomB root && decide (0 ≤ depth) && decide (depth ≤ 10)

def NewPost (W : World) (root : ByteArray) (depth : Int) (sug : Bool) (e : Ending) (W' : World) : Prop := Below W.heap.size W W' ∧
      if newB root depth = true then ∃ gw gm vs, e = .returned (.tuple #[.pointer (some ⟨gw, 0, none⟩), .nilIface]) ∧ IsWalk W' W.heap.size gw gm vs depth sug [⟨root, 0, []⟩] 0 (fun _ => 0)
      else ∃ g, e = .returned (.tuple #[.pointer none, .iface 77 (.pointer (some g))])
theorem new_bad {W w1 : World} {root : ByteArray} {depth : Int} {sug : Bool} (hb : Below W.heap.size W w1) (h : newB root depth = false) (o : Obj) (p : Addr) : NewPost W root depth sug (.returned (.tuple #[.pointer none, .iface 77 (.pointer (some p))])) (w1.alloc o) :=
  ⟨below_alloc hb _, by rw [if_neg (by simp [h])]; exact ⟨_, rfl⟩⟩
theorem one_row {w : World} {base g : Nat} {ok : Nat → Prop} {root : ByteArray} (hg : w.heap[g]? = some (.cells #[.string root, .int .i64 0, .slice none 0 0] 36 (0, 0))) (hb : base ≤ g) (ho : ok g) :
    k38.R 36 w base ok (.slice (some ⟨g, 0, none⟩) 1 1) [⟨root, 0, []⟩] :=
  ⟨fun k hk => by injection hk with hk; exact hk ▸ ho, [.string root, .int .i64 0, .slice none 0 0], ⟨rfl, .inr ⟨g, 1, _, rfl, hb, hg, Nat.le_refl _, by decide, rfl, rfl⟩⟩,
    Reps.snoc (Reps.none _ _) (k38_mkM w base _ ⟨root, 0, []⟩ (Kd.R_nil _ _ _ _ _)) rfl⟩

set_option maxRecDepth 100000 in
set_option maxHeartbeats 1000000 in
theorem new_calls (W : World) (root : ByteArray) (depth : Int) (sug : Bool) (hr : root.size ≤ maxLen) :
    Calls Try.prog 14 #[.string root, .int .i64 depth, .bool sug] W (NewPost W root depth sug) := by
  go_enter Try.func14, Try.ntmps14
  go_wp2_with fail
  refine (is_calls root _ (show root.size ≤ 9223372036854775807 from hr)).mono ?_
  rintro e w1 ⟨rfl, hb1⟩
  have HB1 := Lib.hid hb1; clear hb1
  have hsz := HB1.out.size
  cases hrb : roomB root with
  | false =>
    go_wp2_with fail
    refine bodyPost_ret (v := .tuple #[.pointer none, .iface 77 (.pointer (some ⟨w1.heap.size, 0, none⟩))]) (by simp [results, Try.results14, go_sem]) rfl ?_
    exact new_bad HB1.out (by simp [newB, hrb]) _ _
  | true =>
    by_cases h0 : depth < 0
    · have h0' : ¬ (0 ≤ depth) := by omega
      go_wp2_with fail
      refine bodyPost_ret (v := .tuple #[.pointer none, .iface 77 (.pointer (some ⟨w1.heap.size, 0, none⟩))]) (by simp [results, Try.results14, go_sem]) rfl ?_
      exact new_bad HB1.out (by simp [newB, hrb]; omega) _ _
    · by_cases h1 : 10 < depth
      · have h1' : ¬ (depth ≤ 10) := by omega
        go_wp2_with fail
        refine bodyPost_ret (v := .tuple #[.pointer none, .iface 77 (.pointer (some ⟨w1.heap.size, 0, none⟩))]) (by simp [results, Try.results14, go_sem]) rfl ?_
        exact new_bad HB1.out (by simp [newB, hrb, h1']) _ _
      · have h1' : depth ≤ 10 := by omega
        have h0' : 0 ≤ depth := by omega
        have hmk : ∀ w : World, (Instr.makeMap 33 none).run Try.prog w = .ok (.map (some w.heap.size)) (w.alloc (.map #[] 0)) := fun w => by rfl
        go_wp2_with fail
        refine bodyPost_ret (v := .tuple #[.pointer (some ⟨w1.heap.size + 1 + 1, 0, none⟩), .nilIface]) (by simp [results, Try.results14, go_sem]) rfl ?_
        refine ⟨below_alloc (below_alloc (below_alloc HB1.out _) _) _, ?_⟩
        rw [if_pos (by simp [newB, hrb, h0', h1'])]
        have b0 : (((w1.alloc (Obj.cells #[Value.string root, Value.int IntKind.i64 0, Value.slice none 0 0] 36)).alloc (Obj.map #[] 0)).alloc (Obj.cells #[Value.int IntKind.i64 depth, Value.bool sug, Value.slice (some ⟨w1.heap.size, 0, none⟩) 1 1, Value.map (some (w1.heap.size + 1))] 82)).heap[w1.heap.size]? = _ :=
          (Below.heap_alloc _ _ _ (by simp; omega)).trans ((Below.heap_alloc _ _ _ (by simp)).trans (heap_alloc_new _ _))
        refine ⟨_, w1.heap.size + 1, .slice (some ⟨w1.heap.size, 0, none⟩) 1 1, rfl, ⟨by omega, by omega, fun k hk => hk⟩, ?_, ?_, one_row b0 (by omega) ⟨by omega, by omega⟩⟩
        · have := heap_alloc_new ((w1.alloc (Obj.cells #[Value.string root, Value.int IntKind.i64 0, Value.slice none 0 0] 36)).alloc (Obj.map #[] 0)) (Obj.cells #[Value.int IntKind.i64 depth, Value.bool sug, Value.slice (some ⟨w1.heap.size, 0, none⟩) 1 1, Value.map (some (w1.heap.size + 1))] 82)
          rw [World.size_alloc, World.size_alloc] at this
          exact this
        have hm := SMap.made (w1.alloc (Obj.cells #[Value.string root, Value.int IntKind.i64 0, Value.slice none 0 0] 36))
        rw [World.size_alloc] at hm
        exact hm.step (Below.heap_alloc _ _ _ (by simp))
end Go.Proofs.Yteamocejpankdaa
