/- What is read as data lies in memory as a kind says: strings, integers, bools, structs, slices of them. For every program. -/
import Derived.Test.YteamocejpankdaaPWalkCopiesx0
import Derived.ChangeArms
namespace Go.Proofs.Yteamocejpankdaa
open Go.RowKit Go.Proofs.YteamocejpankdaaW.PrintWords
set_option linter.unusedVariables false

theorem addr_add (a : Addr) (x y : Nat) : (a.add x).add y = a.add (x + y) := by
  unfold Addr.add
  by_cases h1 : x = 0
  · subst h1; simp
  · by_cases h2 : y = 0
    · subst h2; simp
    · simp [h1, h2]; omega
/-- Whatever is read at a type is of a kind, and it is fit. -/
def Opens {α : Type} (P : Program) (d : Kd α) (t : TypeId) (ok : α → Prop) : Prop :=
  ∀ (H : Type) (enc : TypeId × Value → H) (w : World) (base : Nat) (spare : Nat → Bool) (held : Bool) (fuel : Nat) (cs : List Value) (y : DataW H × List MemPlace), DataW.trod enc P w base spare held fuel t cs = some y → ∃ x, d.K w x cs ∧ ok x
theorem opens_string {P : Program} {t : TypeId} (ht : P.underlying t = some .string) : Opens P Kd.string t (fun s => s.size ≤ maxLen) := by
  intro H enc w base spare held fuel cs y h
  cases fuel with
  | zero => simp [DataW.trod] at h
  | succ n =>
    unfold DataW.trod at h
    rw [ht] at h
    split at h <;> simp_all
    rename_i s
    exact ⟨s, rfl, h.1⟩
theorem opens_int {P : Program} {t : TypeId} {k : IntKind} (ht : P.underlying t = some (.int k)) : Opens P (Kd.int k) t (fun n => (Lit.int k n).wf = true) := by
  intro H enc w base spare held fuel cs y h
  cases fuel with
  | zero => simp [DataW.trod] at h
  | succ n =>
    unfold DataW.trod at h
    rw [ht] at h
    split at h <;> simp_all
    rename_i m
    first | exact ⟨m, rfl, h.1.2⟩ | (obtain ⟨⟨rfl, h2⟩, _⟩ := h; exact ⟨_, rfl, h2⟩)
theorem opens_bool {P : Program} {t : TypeId} (ht : P.underlying t = some .bool) : Opens P Kd.bool t (fun _ => True) := by
  intro H enc w base spare held fuel cs y h
  cases fuel with
  | zero => simp [DataW.trod] at h
  | succ n =>
    unfold DataW.trod at h
    rw [ht] at h
    split at h <;> simp_all
    rename_i b
    cases b
    · exact .inl rfl
    · exact .inr rfl
theorem opens_slice {α : Type} {P : Program} {d : Kd α} {t e e' : TypeId} {ok : α → Prop} (ht : P.underlying t = some (.slice e)) (hsz : P.cellsOf e = d.sz) (hd : Opens P d e ok) :
    Opens P (Kd.slice e' d) t (fun xs => xs.length ≤ maxLen ∧ ∀ x ∈ xs, ok x) := by
  intro H enc w base spare held fuel cs y h
  rcases DataW.trod_slice ht h with ⟨rfl, _⟩ | ⟨a, len, cap, elems, rest, n, _, rfl, _, hb, hlc, hcap, hlen, hel, _, _⟩
  · exact ⟨[], ⟨none, 0, rfl, Nat.le_refl _, Kd.C_nil d w⟩, Nat.zero_le _, fun _ hx => by cases hx⟩
  · have key : ∀ i, ∃ x : Option α, i < len → ∃ x0 c, x = some x0 ∧ c.length = d.sz ∧ d.K w x0 c ∧ ok x0 ∧ ∀ j u, c[j]? = some u → w.cell? (a.add (i * d.sz + j)) = some u := by
      intro i
      by_cases hi : i < len
      · have h1 := hel i hi
        rw [List.getElem?_eq_getElem (by omega), Option.bind_eq_some_iff] at h1
        obtain ⟨c, h2, h3⟩ := h1
        obtain ⟨x, h4, h5⟩ := hd H enc w base spare held n c _ h3
        obtain ⟨_, h6, h7⟩ := World.cells?_some h2
        rw [hsz] at h6 h7
        refine ⟨some x, fun _ => ⟨x, c, rfl, h6, h4, h5, fun j u hu => ?_⟩⟩
        have hj : j < c.length := (List.getElem?_eq_some_iff.1 hu).1
        have := h7 j (by omega)
        rw [hu] at this
        rw [← this]
        rw [addr_add]
      · exact ⟨none, fun h => absurd h hi⟩
    obtain ⟨f, hf⟩ := Classical.axiomOfChoice key
    have hne : len = 0 ∨ ∃ x0, f 0 = some x0 := by
      rcases Nat.eq_zero_or_pos len with h | h
      · exact .inl h
      · obtain ⟨x0, _, h1, _⟩ := hf 0 h
        exact .inr ⟨x0, h1⟩
    rcases hne with rfl | ⟨x0, _⟩
    · refine ⟨[], ⟨some a, cap, rfl, Nat.zero_le _, ⟨rfl, by simp, fun h => by simp at h⟩⟩, Nat.zero_le _, fun _ hx => by cases hx⟩
    · have hg : ∀ i, i < len → ∃ c, c.length = d.sz ∧ d.K w ((f i).getD x0) c ∧ ok ((f i).getD x0) ∧ ∀ j u, c[j]? = some u → w.cell? (a.add (i * d.sz + j)) = some u := by
        intro i hi
        obtain ⟨z, c, h1, h2, h3, h4, h5⟩ := hf i hi
        rw [h1]
        exact ⟨c, h2, h3, h4, h5⟩
      have hl : ((List.range len).map fun i => (f i).getD x0).length = len := by simp
      refine ⟨(List.range len).map fun i => (f i).getD x0, ⟨some a, cap, by rw [hl], by rw [hl]; exact hlc, ⟨rfl, ?_, fun _ => ⟨a, rfl, fun j p hj => ?_⟩⟩⟩, ?_, fun x hx => ?_⟩
      · rw [hl]; unfold maxLen at hcap; omega
      · rw [List.getElem?_map] at hj
        have hjl : j < len := by
          have := (List.getElem?_eq_some_iff.1 (Option.map_eq_some_iff.1 hj).choose_spec.1).1
          simpa using this
        rw [List.getElem?_eq_getElem (by simpa using hjl)] at hj
        simp only [List.getElem_range, Option.map_some, Option.some.injEq] at hj
        subst hj
        obtain ⟨c, h2, h3, _, h5⟩ := hg j hjl
        exact ⟨c, h2, h3, h5⟩
      · rw [hl]; omega
      · rw [List.mem_map] at hx
        obtain ⟨i, hi, rfl⟩ := hx
        obtain ⟨_, _, _, h4, _⟩ := hg i (by simpa using hi)
        exact h4
def OpensF {α : Type} (P : Program) (d : Kd α) (fs : List Field) (o : Nat) (ok : α → Prop) : Prop :=
  ∀ (H : Type) (enc : TypeId × Value → H) (w : World) (base : Nat) (spare : Nat → Bool) (held : Bool) (n : Nat) (cs : List Value), (∀ (i : Nat) (f : Field), fs[i]? = some f → ∃ y, DataW.trod enc P w base spare held n f.type ((cs.drop f.offset).take (P.cellsOf f.type)) = some y) →
    o + d.sz ≤ cs.length → ∃ x, d.K w x ((cs.drop o).take d.sz) ∧ ok x
theorem opensF_one {α : Type} {P : Program} {d : Kd α} {f : Field} {o : Nat} {ok : α → Prop} (ho : f.offset = o) (hsz : P.cellsOf f.type = d.sz) (hd : Opens P d f.type ok) : OpensF P d [f] o ok := by
  intro H enc w base spare held n cs h _
  obtain ⟨y, hy⟩ := h 0 f rfl
  rw [ho, hsz] at hy
  exact hd H enc w base spare held n _ y hy
theorem opensF_cons {α β : Type} {P : Program} {a : Kd α} {b : Kd β} {f : Field} {fs : List Field} {o : Nat} {oka : α → Prop} {okb : β → Prop} (ho : f.offset = o) (hsz : P.cellsOf f.type = a.sz) (ha : Opens P a f.type oka) (hb : OpensF P b fs (o + a.sz) okb) :
    OpensF P (Kd.pair a b) (f :: fs) o (fun x => oka x.1 ∧ okb x.2) := by
  intro H enc w base spare held n cs h hl
  have hsp : (Kd.pair a b).sz = a.sz + b.sz := rfl
  rw [hsp] at hl ⊢
  obtain ⟨y, hy⟩ := h 0 f rfl
  rw [ho, hsz] at hy
  obtain ⟨x1, h1, h2⟩ := ha H enc w base spare held n _ y hy
  obtain ⟨x2, h3, h4⟩ := hb H enc w base spare held n cs (fun i g hg => h (i + 1) g (by simpa using hg)) (by omega)
  refine ⟨(x1, x2), ⟨_, _, ?_, h1, h3⟩, h2, h4⟩
  rw [List.take_add, List.drop_drop]
theorem opens_struct {α : Type} {P : Program} {d : Kd α} {t : TypeId} {fs : Array Field} {ok : α → Prop} (ht : P.underlying t = some (.struct fs)) (hsz : P.cellsOf t = d.sz) (hd : OpensF P d fs.toList 0 ok) : Opens P d t ok := by
  intro H enc w base spare held fuel cs y h
  obtain ⟨xs, n, _, _, hl, hxl, hx⟩ := DataW.trod_struct ht h
  rw [hsz] at hl
  obtain ⟨x, h1, h2⟩ := hd H enc w base spare held n cs (fun i f hf => by
    have hf : fs[i]? = some f := by simpa using hf
    have := hx i f hf
    have hi : i < xs.length := by rw [hxl]; exact (Array.getElem?_eq_some_iff.1 hf).1
    rw [List.getElem?_eq_getElem hi] at this
    exact ⟨_, this⟩) (by omega)
  refine ⟨x, ?_, h2⟩
  rw [List.drop_zero, List.take_of_length_le (by omega)] at h1
  exact h1
theorem opens_iso {α β : Type} {P : Program} {d : Kd α} {t : TypeId} {ok : α → Prop} (f : β → α) (g : α → β) (hfg : ∀ x, f (g x) = x) (hd : Opens P d t ok) : Opens P (Kd.iso d f) t (fun y => ok (f y)) := by
  intro H enc w base spare held fuel cs y h
  obtain ⟨x, h1, h2⟩ := hd H enc w base spare held fuel cs y h
  exact ⟨g x, by show d.K w (f (g x)) cs; rw [hfg]; exact h1, by show ok (f (g x)); rw [hfg]; exact h2⟩
theorem Opens.mono {α : Type} {P : Program} {d : Kd α} {t : TypeId} {ok ok' : α → Prop} (h : Opens P d t ok) (hi : ∀ x, ok x → ok' x) : Opens P d t ok' := by
  intro H enc w base spare held fuel cs y hy
  obtain ⟨x, h1, h2⟩ := h H enc w base spare held fuel cs y hy
  exact ⟨x, h1, hi x h2⟩
end Go.Proofs.Yteamocejpankdaa
