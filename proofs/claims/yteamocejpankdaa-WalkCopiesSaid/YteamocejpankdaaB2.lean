/- The document's Is (a room's name) and New, as what the program's are: plain Lean. For every text. -/
import Derived.Test.YteamocejpankdaaA13
import Derived.Test.YteamocejpankdaaPWalkCopiesx3
namespace Go.Proofs.Yteamocejpankdaa
open Go.Proofs.YteamocejpankdaaW.PrintLast Go.RowKit Go.Shelf Go.Proofs.YteamocejpankdaaW.PrintWords Go.Proofs.Yteamocejpankdaa.PWalkCopies
set_option linter.unusedVariables false
set_option linter.unusedSimpArgs false

theorem bt_nat {s : ByteArray} {i : Nat} (h : i < s.size) : bt s (i : Int) = ((s.data.toList[i]'(by rw [list_len]; exact h)).toNat : Int) := by
  have := bt_at s (i : Int) (by simpa using h)
  rw [← this]
  simp only [Int.toNat_natCast]
  rfl
def memC (set : ByteArray) (c : Int) : Bool := set.data.toList.any fun b => decide ((b.toNat : Int) = c)
theorem in4_l0 (s : ByteArray) (c : Int) (hs : s.size ≤ 4000000000000000000) : ∀ n i, s.size - i = n → i ≤ s.size → ∀ k, n < k → enfiladeref04_in.l0 k s c (s.size : Int) (i : Int) = some ((s.data.toList.drop i).any fun b => decide ((b.toNat : Int) = c)) := by
  intro n
  induction n with
  | zero =>
    intro i h1 h2 k hk
    obtain ⟨k, rfl⟩ : ∃ m, k = m + 1 := ⟨k - 1, by omega⟩
    have e : i = s.size := by omega
    subst e
    rw [List.drop_eq_nil_of_le (by rw [list_len]; exact Nat.le_refl _)]
    simp [enfiladeref04_in.l0]
  | succ n ih =>
    intro i h1 h2 k hk
    obtain ⟨k, rfl⟩ : ∃ m, k = m + 1 := ⟨k - 1, by omega⟩
    have hi : i < s.size := by omega
    have hl : i < s.data.toList.length := by rw [list_len]; exact hi
    unfold enfiladeref04_in.l0
    rw [if_pos (by omega), if_pos (by omega), if_pos (by omega), List.drop_eq_getElem_cons hl, bt_nat hi, List.any_cons]
    by_cases he : ((s.data.toList[i].toNat : Int) = c)
    · rw [if_pos he, decide_eq_true he]; rfl
    · rw [if_neg he, show wrap64 ((i : Int) + 1) = ((i + 1 : Nat) : Int) by unfold wrap64; omega, ih (i + 1) (by omega) (by omega) k (by omega), decide_eq_false he]
      rfl
theorem in4_f (s : ByteArray) (c : Int) (hs : s.size ≤ 4000000000000000000) (k : Nat) (hk : s.size < k) : enfiladeref04_in.f k s c = some (memC s c) := by
  have := in4_l0 s c hs s.size 0 (by omega) (by omega) k hk
  unfold enfiladeref04_in.f memC
  simpa using this
theorem all4_l0 (s set : ByteArray) (hs : s.size ≤ 4000000000000000000) (hset : set.size ≤ 90) : ∀ n i, s.size - i = n → i ≤ s.size → ∀ k, n + 100 < k → enfiladeref04_all.l0 k s set (s.size : Int) (i : Int) = some ((s.data.toList.drop i).all fun b => memC set b.toNat) := by
  intro n
  induction n with
  | zero =>
    intro i h1 h2 k hk
    obtain ⟨k, rfl⟩ : ∃ m, k = m + 1 := ⟨k - 1, by omega⟩
    have e : i = s.size := by omega
    subst e
    rw [List.drop_eq_nil_of_le (by rw [list_len]; exact Nat.le_refl _)]
    simp [enfiladeref04_all.l0]
  | succ n ih =>
    intro i h1 h2 k hk
    obtain ⟨k, rfl⟩ : ∃ m, k = m + 1 := ⟨k - 1, by omega⟩
    have hi : i < s.size := by omega
    have hl : i < s.data.toList.length := by rw [list_len]; exact hi
    unfold enfiladeref04_all.l0
    rw [if_pos (by omega), if_pos (by omega), if_pos (by omega), List.drop_eq_getElem_cons hl, bt_nat hi, List.all_cons, in4_f _ _ (by omega) k (by omega)]
    simp only [Option.bind_some]
    by_cases he : memC set (s.data.toList[i].toNat : Int) = true
    · rw [if_pos he, show wrap64 ((i : Int) + 1) = ((i + 1 : Nat) : Int) by unfold wrap64; omega, ih (i + 1) (by omega) (by omega) k (by omega), he]
      rfl
    · rw [if_neg he, Bool.eq_false_iff.2 he]; rfl
def allS (lo hi : Int) (set s : ByteArray) : Bool := decide (lo ≤ (s.size : Int)) && (decide ((s.size : Int) ≤ hi) && s.data.toList.all fun b => memC set b.toNat)
theorem all4_f (s set : ByteArray) (lo hi : Int) (hs : s.size ≤ 4000000000000000000) (hset : set.size ≤ 90) (k : Nat) (hk : s.size + 102 < k) : enfiladeref04_all.f k s lo hi set = some (allS lo hi set s) := by
  obtain ⟨k, rfl⟩ : ∃ m, k = m + 1 := ⟨k - 1, by omega⟩
  have h := all4_l0 s set hs hset s.size 0 (by omega) (by omega) k (by omega)
  have h : enfiladeref04_all.l0 k s set (s.size : Int) 0 = some (s.data.toList.all fun b => memC set b.toNat) := by simpa using h
  unfold enfiladeref04_all.f allS
  by_cases h1 : (s.size : Int) < lo
  · rw [if_pos h1, show decide (lo ≤ (s.size : Int)) = false by simp; omega]
    simp [enfiladeref04_all.j0]
  · rw [if_neg h1, show decide (lo ≤ (s.size : Int)) = true by simp; omega]
    show (if decide ((s.size : Int) > hi) = true then some false else enfiladeref04_all.l0 k s set (s.size : Int) 0) = _
    by_cases h2 : (s.size : Int) > hi
    · rw [if_pos (by simp [h2]), show decide ((s.size : Int) ≤ hi) = false by simp; omega]; rfl
    · rw [if_neg (by simp; omega), show decide ((s.size : Int) ≤ hi) = true by simp; omega, h]; rfl
theorem idx_none (l : List UInt8) (c : UInt8) (h : ∀ b ∈ l, b ≠ c) : Lib.indexByte l c = -1 := by
  induction l with
  | nil => rfl
  | cons b l ih =>
    have h1 := h b List.mem_cons_self
    have h2 := ih (fun x hx => h x (List.mem_cons_of_mem _ hx))
    unfold Lib.indexByte
    simp [h1, h2]
theorem idx_some (p q : List UInt8) (c : UInt8) (h : ∀ b ∈ p, b ≠ c) : Lib.indexByte (p ++ c :: q) c = (p.length : Int) := by
  induction p with
  | nil => simp [Lib.indexByte]
  | cons b l ih =>
    have h1 := h b List.mem_cons_self
    have h2 := ih (fun x hx => h x (List.mem_cons_of_mem _ hx))
    rw [List.cons_append]
    unfold Lib.indexByte
    rw [h2]
    simp [h1]
theorem colon4_l0 (s : ByteArray) (hs : s.size ≤ 4000000000000000000) : ∀ n i, s.size - i = n → i ≤ s.size → (∀ b ∈ s.data.toList.take i, b ≠ 58) → ∀ k, n < k → enfiladeref04_colon.l0 k s (s.size : Int) (i : Int) = some (cutB s) := by
  intro n
  induction n with
  | zero =>
    intro i h1 h2 hp k hk
    obtain ⟨k, rfl⟩ : ∃ m, k = m + 1 := ⟨k - 1, by omega⟩
    have e : i = s.size := by omega
    subst e
    rw [List.take_of_length_le (by rw [list_len]; exact Nat.le_refl _)] at hp
    have hn : Lib.indexByte s.data.toList 58 = -1 := idx_none _ _ hp
    simp [enfiladeref04_colon.l0, cutB, hn]
  | succ n ih =>
    intro i h1 h2 hp k hk
    obtain ⟨k, rfl⟩ : ∃ m, k = m + 1 := ⟨k - 1, by omega⟩
    have hi : i < s.size := by omega
    have hl : i < s.data.toList.length := by rw [list_len]; exact hi
    unfold enfiladeref04_colon.l0
    rw [if_pos (by omega), if_pos (by omega), if_pos (by omega), bt_nat hi]
    by_cases he : ((s.data.toList[i].toNat : Int) = 58)
    · have hn : Lib.indexByte s.data.toList 58 = (i : Int) := by
        have hb : s.data.toList[i] = 58 := UInt8.toNat_inj.1 (by have : (58 : UInt8).toNat = 58 := rfl; omega)
        have hd : s.data.toList = s.data.toList.take i ++ 58 :: s.data.toList.drop (i + 1) := by
          rw [← hb, ← List.drop_eq_getElem_cons hl, List.take_append_drop]
        have := idx_some (s.data.toList.take i) (s.data.toList.drop (i + 1)) 58 hp
        rw [← hd] at this
        rw [this, List.length_take]
        omega
      have hw : wrap64 ((i : Int) + 1) = ((i + 1 : Nat) : Int) := by unfold wrap64; omega
      rw [if_pos he, if_pos (by omega), hw, if_pos (by omega), if_pos (by omega)]
      simp [cutB, hn]
    · rw [if_neg he, show wrap64 ((i : Int) + 1) = ((i + 1 : Nat) : Int) by unfold wrap64; omega]
      refine ih (i + 1) (by omega) (by omega) ?_ k (by omega)
      intro b hb
      rw [List.take_succ_eq_append_getElem hl, List.mem_append] at hb
      rcases hb with hb | hb
      · exact hp b hb
      · rw [List.mem_singleton] at hb
        intro e
        exact he (by rw [← hb, e]; rfl)
theorem colon4_f (s : ByteArray) (hs : s.size ≤ 4000000000000000000) (k : Nat) (hk : s.size < k) : enfiladeref04_colon.f k s = some (cutB s) := by
  have := colon4_l0 s hs s.size 0 (by omega) (by omega) (by simp) k hk
  unfold enfiladeref04_colon.f
  simpa using this
theorem all_eq {set : ByteArray} {p : Int → Bool} (h : ∀ b : UInt8, memC set b.toNat = p b.toNat) (s : ByteArray) (hi : Int) : allS 1 hi set s = allF p hi s := by
  unfold allS allF allB
  have e : (fun b : UInt8 => memC set (b.toNat : Int)) = fun b : UInt8 => p (b.toNat : Int) := funext h
  rw [e]
  have e2 : decide (1 ≤ (s.size : Int)) = !s.toList.isEmpty := by
    by_cases hz : s.size = 0
    · rw [str_empty hz, hz]; rfl
    · rw [str_some (by omega)]; simp; omega
  rw [e2]
  cases (!s.toList.isEmpty) <;> cases decide ((s.size : Int) ≤ hi) <;> cases s.data.toList.all fun b : UInt8 => p (b.toNat : Int) <;> rfl
def setOpaque : ByteArray := ⟨#[97, 98, 99, 100, 101, 102, 103, 104, 105, 106, 107, 108, 109, 110, 111, 112, 113, 114, 115, 116, 117, 118, 119, 120, 121, 122, 48, 49, 50, 51, 52, 53, 54, 55, 56, 57, 65, 66, 67, 68, 69, 70, 71, 72, 73, 74, 75, 76, 77, 78, 79, 80, 81, 82, 83, 84, 85, 86, 87, 88, 89, 90, 95, 45, 46]⟩
def setHost : ByteArray := ⟨#[97, 98, 99, 100, 101, 102, 103, 104, 105, 106, 107, 108, 109, 110, 111, 112, 113, 114, 115, 116, 117, 118, 119, 120, 121, 122, 48, 49, 50, 51, 52, 53, 54, 55, 56, 57, 46, 45]⟩
def setDigit : ByteArray := ⟨#[48, 49, 50, 51, 52, 53, 54, 55, 56, 57]⟩
theorem u8_all {p : UInt8 → Prop} (h : ∀ n : Fin 256, p (UInt8.ofNat n.val)) : ∀ b, p b := fun b => by
  have := h ⟨b.toNat, b.toNat_lt⟩
  simpa using this
theorem opaque_set : ∀ b : UInt8, memC setOpaque b.toNat = opaqueP b.toNat := u8_all (by decide +kernel)
theorem host_set : ∀ b : UInt8, memC setHost b.toNat = withP ⟨#[46, 45]⟩ plainP b.toNat := u8_all (by decide +kernel)
theorem digit_set : ∀ b : UInt8, memC setDigit b.toNat = digitP b.toNat := u8_all (by decide +kernel)
theorem server4_f (s : ByteArray) (hs : s.size ≤ 4000000000000000000) (k : Nat) (hk : s.size + 102 < k) : enfiladeref04_IsServer.f k s = some (serverB s) := by
  have h1 := (cutB_size s).1
  have h2 := (cutB_size s).2
  unfold enfiladeref04_IsServer.f
  rw [colon4_f s hs k (by omega)]
  simp only [Option.bind_some]
  have h4 := all4_f (cutB s).1 setHost 1 50 (by omega) (by decide) k (by omega)
  rw [all_eq host_set] at h4
  have h3 := all4_f (cutB s).2.1 setDigit 1 5 (by omega) (by decide) k (by omega)
  rw [all_eq digit_set] at h3
  unfold serverB
  refine (congrArg (Option.bind · _) h4).trans ?_
  simp only [Option.bind_some]
  generalize allF (withP ⟨#[46, 45]⟩ plainP) 50 (cutB s).1 = b1
  generalize hc : (cutB s).2.2 = b2 at *
  cases b1
  · rfl
  · cases b2
    · rfl
    · rw [if_pos rfl, if_pos rfl]
      refine (congrArg (Option.bind · _) h3).trans ?_
      rfl
theorem split4_j (s set : ByteArray) (x5 : Int) (hs : s.size ≤ 4000000000000000000) (h1 : 1 ≤ s.size) (hset : set.size ≤ 90) (k : Nat) (hk : s.size + 102 < k) : ∃ p h, enfiladeref04_Split.j0 (k + 1) s x5 set =
    some (if x5 ≠ 0 ∧ ((cutB (s.extract 1 s.size)).2.2 && (allS 1 50 set (cutB (s.extract 1 s.size)).1 && serverB (cutB (s.extract 1 s.size)).2.1)) = true then x5 else 0, p, h) := by
  have he : (s.extract 1 s.size).size = s.size - 1 := by rw [ByteArray.size_extract]; omega
  have c1 := (cutB_size (s.extract 1 s.size)).1
  have c2 := (cutB_size (s.extract 1 s.size)).2
  have e1 := colon4_f (s.extract 1 s.size) (by omega) k (by omega)
  have e2 := all4_f (cutB (s.extract 1 s.size)).1 set 1 50 (by omega) hset k (by omega)
  have e3 := server4_f (cutB (s.extract 1 s.size)).2.1 (by omega) k (by omega)
  simp only [enfiladeref04_Split.j0]
  rw [if_pos (by omega), e1]
  simp only [Option.bind_some]
  by_cases hx : x5 = 0
  · rw [if_pos hx, hx]; exact ⟨_, _, rfl⟩
  · rw [if_neg hx]
    generalize cutB (s.extract 1 s.size) = q at *
    obtain ⟨q1, q2, q3⟩ := q
    dsimp only at *
    cases q3
    · exact ⟨⟨#[]⟩, ⟨#[]⟩, by simp⟩
    · rw [if_pos rfl, e2]
      simp only [Option.bind_some]
      cases allS 1 50 set q1
      · exact ⟨⟨#[]⟩, ⟨#[]⟩, by simp⟩
      · rw [if_pos rfl, e3]
        simp only [Option.bind_some]
        cases serverB q2
        · exact ⟨⟨#[]⟩, ⟨#[]⟩, by simp⟩
        · exact ⟨q1, q2, by simp [hx]⟩
theorem is4_f (s : ByteArray) (hs : s.size ≤ 4000000000000000000) (k : Nat) (hk : s.size + 110 < k) : enfiladeref04_Is.f k 1 s = some (roomB s) := by
  obtain ⟨k, rfl⟩ : ∃ m, k = m + 2 := ⟨k - 2, by omega⟩
  have hI : enfiladeref04_Is.f (k + 2) 1 s = (enfiladeref04_Split.f (k + 1) s).bind fun b => some (b.1 == 1) := by
    unfold enfiladeref04_Is.f
    rw [if_pos rfl]
    simp only [enfiladeref04_Is.j0]
    rw [if_pos (by decide)]
  rw [hI]
  unfold enfiladeref04_Split.f roomB
  by_cases hz : s.size = 0
  · have h0 : s.toList = [] := by
      have := str_empty hz
      simpa using this
    rw [if_pos h0, str_empty hz]
    rfl
  · have hp : 0 < s.size := by omega
    have h0 : ¬ s.toList = [] := by
      have := str_some hp
      simpa using this
    rw [if_neg h0, str_some hp, str_head hp, if_pos (by omega)]
    have hb : bt s 0 = (s[0].toNat : Int) := bt_nat hp
    have f1 : ∀ x : Nat, x < 256 → ((bt s 0 = (x : Int)) ↔ s[0] = UInt8.ofNat x) := by
      intro x hx
      rw [hb]
      constructor
      · intro h
        apply UInt8.toNat_inj.1
        rw [UInt8.toNat_ofNat_of_lt' (by simpa using hx)]
        omega
      · intro h
        rw [h, UInt8.toNat_ofNat_of_lt' (by simpa using hx)]
    have key := fun (set : ByteArray) (x5 : Int) (hset : set.size ≤ 90) => split4_j s set x5 hs (by omega) hset k (by omega)
    by_cases h33 : bt s 0 = 33
    · rw [if_pos h33]
      have hc : (s[0] == 33) = true := by
        have := (f1 33 (by decide)).1 h33
        rw [this]; rfl
      rw [hc]
      obtain ⟨p, h, e⟩ := key setOpaque 1 (by decide)
      refine (congrArg (Option.bind · _) e).trans ?_
      rw [all_eq opaque_set]
      simp only [Option.bind_some]
      cases (cutB (s.extract 1 s.size)).2.2 && (allF opaqueP 50 (cutB (s.extract 1 s.size)).1 && serverB (cutB (s.extract 1 s.size)).2.1) <;> rfl
    · rw [if_neg h33]
      have hc : (s[0] == 33) = false := by
        rw [beq_eq_false_iff_ne]
        intro h
        exact h33 ((f1 33 (by decide)).2 h)
      rw [hc]
      have fin : ∀ (set : ByteArray) (x5 : Int), set.size ≤ 90 → x5 ≠ 1 → ((enfiladeref04_Split.j0 (k + 1) s x5 set).bind fun b => some (b.1 == 1)) = some false := by
        intro set x5 hset hx
        obtain ⟨p, h, e⟩ := key set x5 hset
        rw [e]
        simp only [Option.bind_some]
        split
        · simp [hx]
        · simp
      by_cases h64 : bt s 0 = 64
      · rw [if_pos h64]; exact (fin _ 2 (by decide) (by decide)).trans (by simp)
      · rw [if_neg h64]
        by_cases h35 : bt s 0 = 35
        · rw [if_pos h35]; exact (fin _ 3 (by decide) (by decide)).trans (by simp)
        · rw [if_neg h35]; exact (fin _ 0 (by decide) (by decide)).trans (by simp)
theorem new4_yes (root : ByteArray) (depth : Int) (sug : Bool) (hs : root.size ≤ 4000000000000000000) (h : newB root depth = true) : ∃ k, enfiladeref20_New.f k root depth sug = some (depth, sug, [⟨root, 0, []⟩], [], 0, -1, ⟨#[]⟩) := by
  refine ⟨root.size + 112, ?_⟩
  unfold newB at h
  simp only [Bool.and_eq_true, decide_eq_true_eq] at h
  unfold enfiladeref20_New.f
  rw [is4_f root hs _ (by omega)]
  simp only [Option.bind_some]
  rw [if_pos h.1.1, if_neg (by omega)]
  simp only [enfiladeref20_New.j0]
  rw [if_neg (by simp; omega)]
  rfl
theorem new4_no (root : ByteArray) (depth : Int) (sug : Bool) (hs : root.size ≤ 4000000000000000000) (h : newB root depth = false) : ∃ k c r6 r7, c ≠ 0 ∧ enfiladeref20_New.f k root depth sug = some (0, false, [], [], c, r6, r7) := by
  refine ⟨root.size + 112, ?_⟩
  unfold enfiladeref20_New.f
  rw [is4_f root hs _ (by omega)]
  simp only [Option.bind_some]
  cases hr : roomB root with
  | false => exact ⟨7, -1, _, by decide, by rw [if_neg (by decide)]; rfl⟩
  | true =>
    rw [if_pos rfl]
    unfold newB at h
    rw [hr] at h
    have hd : depth < 0 ∨ depth > 10 := by
      by_cases h0 : depth < 0
      · exact .inl h0
      · by_cases h1 : depth > 10
        · exact .inr h1
        · exfalso
          rw [decide_eq_true (by omega), decide_eq_true (by omega)] at h
          exact absurd h (by decide)
    rcases hd with hd | hd
    · exact ⟨8, -1, _, by decide, by rw [if_pos hd]; rfl⟩
    · exact ⟨8, -1, _, by decide, by rw [if_neg (by omega), decide_eq_true hd]; rfl⟩
end Go.Proofs.Yteamocejpankdaa
