/- What a call keeps: all blocks but some, and the streams and the outside world. For every world. -/
import Derived.Test.YteamocejpankdaaPWalkCopiesx0
import Derived.Test.YteamocejpankdaaWMore
import Derived.Test.YteamocejpankdaaWNEv
namespace Go.Proofs.Yteamocejpankdaa
open Go.Proofs.YteamocejpankdaaW.PrintLast Go.RowKit Go.Proofs.YteamocejpankdaaW.PrintWords
set_option linter.unusedVariables false

structure Kept (w W : World) (S : Nat → Prop) : Prop where
  size : w.heap.size ≤ W.heap.size
  block : ∀ i, i < w.heap.size → ¬ S i → W.heap[i]? = w.heap[i]?
  still : W.os = w.os ∧ W.tape = w.tape ∧ W.output = w.output
section
variable {w W W2 : World} {S S2 S' : Nat → Prop}
theorem Kept.base (h : Kept w W S) : YteamocejpankdaaW.PrintWords.Kept w W S := ⟨h.1, h.2⟩
theorem Kept.refl (w : World) (S : Nat → Prop) : Kept w w S := ⟨Nat.le_refl _, fun _ _ _ => rfl, rfl, rfl, rfl⟩
theorem Kept.of_below (h : Below w.heap.size w W) (S : Nat → Prop) : Kept w W S := ⟨h.size, fun i hi _ => h.block i hi, h.os, h.tape, h.output⟩
theorem Kept.mono (h : Kept w W S) (hs : ∀ k, S k → S' k) : Kept w W S' := ⟨h.1, fun i hi hn => h.2 i hi (fun hk => hn (hs i hk)), h.3⟩
theorem Kept.then_ (h : Kept w W S) (k : Kept W W2 S2) (hs : ∀ k, S2 k → S k ∨ w.heap.size ≤ k) : Kept w W2 S :=
  ⟨Nat.le_trans h.1 k.1, fun i hi hn => (k.2 i (Nat.lt_of_lt_of_le hi h.1) (fun h2 => (hs i h2).elim hn (fun h3 => by omega))).trans (h.2 i hi hn), k.3.1.trans h.3.1, k.3.2.1.trans h.3.2.1, k.3.2.2.trans h.3.2.2⟩
theorem Kept.of_grown {row : Option Nat} (hg : W.grownBy W2 row) (h : Kept w W S) (hr : ∀ k, row = some k → S k ∨ w.heap.size ≤ k) : Kept w W2 S :=
  h.then_ (S2 := fun k => row = some k) ⟨hg.size, fun i hi hn => hg.block i hi (fun he => hn he.symm), hg.os, hg.tape, hg.output⟩ hr
theorem Kept.below (h : Kept w W S) (hb : Below W.heap.size W W2) : Kept w W2 S := h.then_ (Kept.of_below hb (fun _ => False)) (fun _ hk => hk.elim)
theorem Kept.alloc (h : Kept w W S) (o : Obj) : Kept w (W.alloc o) S := h.below (below_alloc (Below.refl _ _) o)
theorem Kept.drew (h : Kept w W S) : Kept w W.drew S := ⟨h.1, h.2, h.3⟩
theorem Kept.drewN (h : Kept w W S) (m : Nat) : Kept w (W.drewN m) S := ⟨h.1, h.2, h.3⟩
theorem Kept.setCell (h : Kept w W S) {p : Addr} (hp : S p.block ∨ w.heap.size ≤ p.block) (u : Value) : Kept w (W.setCell p u) S :=
  h.then_ (S2 := fun k => k = p.block) ⟨by simp [World.setCell], fun i _ hn => Below.heap_setCell W p u i hn, rfl, rfl, rfl⟩ (fun k hk => by rw [hk]; exact hp)
theorem Kept.to_below (h : Kept w W (fun _ => False)) : Below w.heap.size w W := ⟨h.3.1, h.3.2.1, h.3.2.2, h.1, fun k hk => h.2 k hk (fun h => h)⟩
theorem blk_kept {g : Nat} {o : Obj} (hb : W.heap[g]? = some o) (hk : Kept W W2 S) (hne : ¬ S g) : W2.heap[g]? = some o := (hk.2 g (blk_lt hb) hne).trans hb
structure KeepBut (w w' : World) (g : Nat) (row : Option Nat) : Prop where
  size : w.heap.size ≤ w'.heap.size
  block : ∀ i, i < w.heap.size → i ≠ g → some i ≠ row → w'.heap[i]? = w.heap[i]?
  still : w'.os = w.os ∧ w'.tape = w.tape ∧ w'.output = w.output
theorem KeepBut.refl (w : World) (g : Nat) (row : Option Nat) : KeepBut w w g row := ⟨Nat.le_refl _, fun _ _ _ _ => rfl, rfl, rfl, rfl⟩
theorem KeepBut.trans {w w1 w2 : World} {g : Nat} {row row1 : Option Nat} (h : KeepBut w w1 g row) (k : KeepBut w1 w2 g row1) (hr : row1 = row ∨ ∃ b, row1 = some b ∧ w.heap.size ≤ b) : KeepBut w w2 g row :=
  ⟨Nat.le_trans h.1 k.1, fun i hi hg hn => by
    refine (k.2 i (Nat.lt_of_lt_of_le hi h.1) hg ?_).trans (h.2 i hi hg hn)
    rcases hr with rfl | ⟨b, rfl, hb⟩
    · exact hn
    · intro e
      injection e with e
      omega, k.3.1.trans h.3.1, k.3.2.1.trans h.3.2.1, k.3.2.2.trans h.3.2.2⟩
theorem KeepBut.drewN {w w1 : World} {g : Nat} {row : Option Nat} (h : KeepBut w w1 g row) (m : Nat) : KeepBut w (w1.drewN m) g row := ⟨h.1, h.2, h.3⟩
theorem Kept.of_keep {g : Nat} (h : Kept w W S) (k : KeepBut W W2 g none) (hg : S g ∨ w.heap.size ≤ g) : Kept w W2 S :=
  h.then_ (S2 := fun k => k = g) ⟨k.1, fun i hi hn => k.2 i hi hn (by simp), k.3⟩ (fun k hk => by rw [hk]; exact hg)
end
namespace Kd
section
variable {α : Type} {d : Kd α} {e base n c : Nat} {ok oki S S2 : Nat → Prop} {w w0 W W1 W2 : World} {v : Value} {A : Option Addr} {xs : List α} {i : Int} {cs : List Value}
theorem R_kept (h : d.R e W base ok v xs) (hk : Kept W W2 S) (hne : ∀ k, ok k → ¬ S k) : d.R e W2 base ok v xs := YteamocejpankdaaW.PrintWords.Kd.R_kept h hk.base hne
theorem S_kept (h : Kd.S d e W base ok v xs) (hk : Kept W W2 S) (hne : ∀ k, ok k → ¬ S k) : Kd.S d e W2 base ok v xs := YteamocejpankdaaW.PrintWords.Kd.S_kept h hk.base hne
theorem M_kept {x : α} (h : d.M W base ok x cs) (hk : Kept W W2 S) (hne : ∀ k, ok k → ¬ S k) : d.M W2 base ok x cs := YteamocejpankdaaW.PrintWords.Kd.M_kept h hk.base hne
theorem F_kept (h : YteamocejpankdaaW.PrintWords.Kd.F d W ok A n xs) (hk : Kept W W2 S) (hne : ∀ k, ok k → ¬ S k) : YteamocejpankdaaW.PrintWords.Kd.F d W2 ok A n xs := YteamocejpankdaaW.PrintWords.Kd.F_kept h hk.base hne
theorem V_kept (h : YteamocejpankdaaW.PrintWords.Kd.V d e W base ok v xs) (hk : Kept W W2 S) (hne : ∀ k, ok k → ¬ S k) : YteamocejpankdaaW.PrintWords.Kd.V d e W2 base ok v xs := YteamocejpankdaaW.PrintWords.Kd.V_kept h hk.base hne
theorem N_kept (h : YteamocejpankdaaW.PrintWords.Kd.N d e W base ok v xs) (hk : Kept W W2 S) (hne : ∀ k, ok k → ¬ S k) : YteamocejpankdaaW.PrintWords.Kd.N d e W2 base ok v xs := YteamocejpankdaaW.PrintWords.Kd.N_kept h hk.base hne
end
end Kd
end Go.Proofs.Yteamocejpankdaa
