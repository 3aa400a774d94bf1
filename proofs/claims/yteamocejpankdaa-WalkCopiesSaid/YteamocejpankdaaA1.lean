import Derived.Test.YteamocejpankdaaG1
import Derived.Test.YteamocejpankdaaShelf
import Derived.WalkSpells
import Derived.WalkLawsBesides
import Derived.Deep.QuietTactic
import Derived.BigQuiet
import Derived.IntWalk
import Derived.Lib.Hide
namespace Go.Proofs.Yteamocejpankdaa
open Go.RowKit Go.Proofs.YteamocejpankdaaW.PrintWords Go.Proofs.Yteamocejpankdaa.PWalkCopies
set_option linter.unusedVariables false
set_option linter.unusedSimpArgs false

/-- A function value that tells of each byte whether it fits: quiet. -/
def Fit (g : Nat) (lb : Array Value) (p : Int → Bool) (w : World) : Prop :=
  (∀ args w, (callFunc g args).run Try.prog w = .ok (.enter g args) w) ∧
  ∀ (c : Int) (W : World), 0 ≤ c → c ≤ 255 → Below w.heap.size w W → Calls Try.prog g (#[.int .u8 c] ++ lb) W fun e W' => e = .returned (.bool (p c)) ∧ ∃ n, W' = W.drewN n

def allB (p : Int → Bool) (s : List UInt8) : Bool := s.all fun b => p b.toNat

theorem allB_succ (p : Int → Bool) (s : ByteArray) (k : Nat) (h : k < s.size) : allB p (s.data.toList.take (k + 1)) = (allB p (s.data.toList.take k) && p s[k].toNat) := by
  unfold allB
  have h' : k < s.data.toList.length := by simpa using h
  rw [List.take_succ_eq_append_getElem h', List.all_append]
  simp
  rfl
theorem allB_false (p : Int → Bool) (s : ByteArray) (k : Nat) (h : k < s.size) (hp : p s[k].toNat = false) : allB p s.data.toList = false := by
  unfold allB
  rw [List.all_eq_false]
  exact ⟨s[k], by exact List.getElem_mem (by simpa using h), by simp [hp]⟩
theorem allB_full (p : Int → Bool) (s : ByteArray) (k : Nat) (h : s.size ≤ k) : allB p (s.data.toList.take k) = allB p s.data.toList := by
  rw [List.take_of_length_le (by simpa using h)]
def allF (p : Int → Bool) (most : Int) (s : ByteArray) : Bool := allB p s.data.toList && (!s.toList.isEmpty && decide ((s.size : Int) ≤ most))
theorem ret_bool {a b : Bool} (h : a = b) : Ending.returned (.bool a) = .returned (.bool b) := by rw [h]

theorem all_calls (s : ByteArray) (most : Int) (g : Nat) (lb : Array Value) (p : Int → Bool) (w : World) (hs : s.size ≤ 9223372036854775807) (hf : Fit g lb p w) :
    Calls Try.prog 44 #[.string s, .int .i64 most, .func (.func g) #[] lb] w fun e w' => e = .returned (.bool (allF p most s)) ∧ ∃ n, w' = w.drewN n := by
  have eg := hf.1
  have HF := Lib.hid hf.2
  clear hf
  go_enter Try.func44, Try.ntmps44
  go_wp2_with fail
  go_loopw [7, 10] (fun _ i wr => ∃ k : Nat, k ≤ s.size ∧ i = .int .i64 k ∧ Hid (allB p (s.data.toList.take k) = true) ∧ ∃ n, wr = w.drewN n) (fun _ i _ => s.size - (intOf i).toNat)
  case atStart => exact ⟨0, Nat.zero_le _, rfl, Lib.hid rfl, 0, rfl⟩
  case round =>
    obtain ⟨k, hk, rfl, HA, n, rfl⟩ := hrel
    by_cases hlt : k < s.size
    · have hb := (s[k]).toNat_lt
      have HX := Lib.hid (allB_succ p s k hlt)
      have HY := Lib.hid (allB_false p s k hlt)
      go_wp2_with fail
      refine (HF.out _ _ (by omega) (by omega) (pw_below_drewN (Below.refl _ _) n)).mono ?_
      rintro e w' ⟨rfl, m, rfl⟩
      cases hp : p ↑s[k].toNat
      · have HP := Lib.hid hp; clear hp
        go_wp2_with fail
        go_ret
        exact ⟨ret_bool (by unfold allF; rw [HY.out HP.out]; rfl), n + m, rfl⟩
      · have HP := Lib.hid hp; clear hp
        go_wp2_with fail
        go_roundw
        case rel => exact ⟨k + 1, by omega, by go_num, Lib.hid (by rw [HX.out, HA.out, HP.out]; rfl), n + m, rfl⟩
        case measure => simp [intOf]; omega
    · have HZ := Lib.hid (allB_full p s k (by omega))
      cases he : s.toList.isEmpty
      all_goals
        go_wp2_with fail
        go_ret
        exact ⟨ret_bool (by unfold allF; rw [← HZ.out, HA.out, he]; simp), n, rfl⟩
/-- A function value that captures nothing. -/
def FitAll (g : Nat) (p : Int → Bool) : Prop :=
  (∀ args w, (callFunc g args).run Try.prog w = .ok (.enter g args) w) ∧
  ∀ (c : Int) (W : World), 0 ≤ c → c ≤ 255 → Calls Try.prog g #[.int .u8 c] W fun e W' => e = .returned (.bool (p c)) ∧ ∃ n, W' = W.drewN n
theorem FitAll.fit {g : Nat} {p : Int → Bool} (h : FitAll g p) (w : World) : Fit g #[] p w := ⟨h.1, fun c W h0 h1 _ => h.2 c W h0 h1⟩

def digitP (c : Int) : Bool := decide (48 ≤ c) && decide (c ≤ 57)
def plainP (c : Int) : Bool := (decide (97 ≤ c) && decide (c ≤ 122)) || digitP c
def opaqueP (c : Int) : Bool := plainP c || (decide (65 ≤ c) && decide (c ≤ 90)) || c == 95 || c == 45 || c == 46

theorem digit_f (c : Int) : ident_digit.f c = some (digitP c) := by
  unfold ident_digit.f digitP
  by_cases h : c ≥ 48 <;> simp [h] <;> omega
theorem plain_f (c : Int) : ident_plain.f c = some (plainP c) := by
  unfold ident_plain.f plainP
  rw [digit_f]
  by_cases h : c ≥ 97 <;> by_cases h' : c ≤ 122 <;> simp [h, h'] <;> omega
theorem opaque_f (c : Int) : ident_opaque.f c = some (opaqueP c) := by
  unfold ident_opaque.f opaqueP
  rw [plain_f]
  cases plainP c
  · by_cases h : c ≥ 65 <;> by_cases h' : c ≤ 90 <;> by_cases h1 : c = 95 <;> by_cases h2 : c = 45 <;> simp [h, h', h1, h2] <;> omega
  · simp
theorem digit_fit : FitAll 46 digitP := ⟨enters_of Try.func46 (by kernel_rfl) rfl, fun c W _ _ => (ident_digit.calls c _ W (digit_f c)).mono fun e w' ⟨h, h'⟩ => ⟨h, h'.out⟩⟩
theorem plain_fit : FitAll 49 plainP := ⟨enters_of Try.func49 (by kernel_rfl) rfl, fun c W _ _ => (ident_plain.calls c _ W (plain_f c)).mono fun e w' ⟨h, h'⟩ => ⟨h, h'.out⟩⟩
theorem opaque_fit : FitAll 50 opaqueP := ⟨enters_of Try.func50 (by kernel_rfl) rfl, fun c W _ _ => (ident_opaque.calls c _ W (opaque_f c)).mono fun e w' ⟨h, h'⟩ => ⟨h, h'.out⟩⟩

def inB (more : ByteArray) (c : Int) : Bool := decide (0 ≤ Lib.indexByte more.data.toList c.toNat.toUInt8)
def withP (more : ByteArray) (p : Int → Bool) (c : Int) : Bool := p c || inB more c

theorem with1_calls (c : Int) (g b1 b2 : Nat) (p : Int → Bool) (more : ByteArray) (w : World) (h0 : 0 ≤ c) (h1 : c ≤ 255) (hf : FitAll g p)
    (c1 : w.cell? ⟨b1, 0, none⟩ = some (.func (.func g) #[] #[])) (c2 : w.cell? ⟨b2, 0, none⟩ = some (.string more)) :
    Calls Try.prog 54 #[.int .u8 c, .pointer (some ⟨b1, 0, none⟩), .pointer (some ⟨b2, 0, none⟩)] w fun e w' => e = .returned (.bool (withP more p c)) ∧ ∃ n, w' = w.drewN n := by
  have eg := hf.1
  have HF := Lib.hid hf.2
  clear hf
  cases hp : p c
  · have HP := Lib.hid hp; clear hp
    go_enter Try.func54, Try.ntmps54
    go_wp2_with fail
    refine (HF.out c _ h0 h1).mono ?_
    rintro e w' ⟨rfl, n, rfl⟩
    rw [HP.out]
    go_wp2_with (go_at_call 55; refine (Try.strings_IndexByte _ _ _).mono ?_; rintro e w' ⟨rfl, rfl⟩)
    go_ret
    exact ⟨ret_bool (by unfold withP inB; rw [HP.out]; simp), n, rfl⟩
  · have HP := Lib.hid hp; clear hp
    go_enter Try.func54, Try.ntmps54
    go_wp2_with fail
    refine (HF.out c _ h0 h1).mono ?_
    rintro e w' ⟨rfl, n, rfl⟩
    rw [HP.out]
    go_wp2_with fail
    go_ret
    exact ⟨ret_bool (by unfold withP; rw [HP.out]; simp), n, rfl⟩

theorem with_calls (more : ByteArray) (g : Nat) (p : Int → Bool) (w : World) (hf : FitAll g p) :
    Calls Try.prog 48 #[.string more, .func (.func g) #[] #[]] w fun e w' => ∃ lb, e = .returned (.func (.func 54) #[] lb) ∧ Fit 54 lb (withP more p) w' ∧ Below w.heap.size w w' := by
  have HF := Lib.hid hf; clear hf
  go_enter Try.func48, Try.ntmps48
  go_wp2_with fail
  go_ret
  refine ⟨_, rfl, ⟨enters_of Try.func54 (by kernel_rfl) rfl, fun c W h0 h1 hb => ?_⟩, ((Below.refl _ _).alloc (Nat.le_refl _) _).alloc (by simp) _⟩
  exact with1_calls c g (w.heap.size + 1) w.heap.size p more W h0 h1 HF.out ((hb.cell (by simp)).trans (by simp)) ((hb.cell (by simp; omega)).trans (by simp))

def cutB (s : ByteArray) : ByteArray × ByteArray × Bool :=
  if 0 ≤ Lib.indexByte s.data.toList 58 then (s.extract 0 (Lib.indexByte s.data.toList 58).toNat, s.extract ((Lib.indexByte s.data.toList 58).toNat + 1) s.size, true) else (s, ⟨#[]⟩, false)

theorem indexByte_lt (l : List UInt8) (c : UInt8) : -1 ≤ Lib.indexByte l c ∧ Lib.indexByte l c < l.length ∨ Lib.indexByte l c = -1 := by
  induction l with
  | nil => exact .inr rfl
  | cons b l ih => 
    unfold Lib.indexByte
    split
    · exact .inl ⟨by omega, by simp⟩
    · split
      · right; rfl
      · rename_i h1 h2
        simp at h2
        left; rcases ih with h | h
        · simp; omega
        · exact absurd h h2

theorem cut_calls (s : ByteArray) (w : World) (hs : s.size ≤ 9223372036854775807) :
    Calls Try.prog 53 #[.string s, .string ⟨#[58]⟩] w fun e w' => e = .returned (.tuple #[.string (cutB s).1, .string (cutB s).2.1, .bool (cutB s).2.2]) ∧ ∃ n, w' = w.drewN n := by
  have h := indexByte_lt s.data.toList 58
  have hl : s.data.toList.length = s.size := by simp
  rw [hl] at h
  clear hl
  by_cases hi : 0 ≤ Lib.indexByte s.data.toList 58
  · obtain ⟨i, hi'⟩ := Int.eq_ofNat_of_zero_le hi
    have hlt : i < s.size := by omega
    have E1 : Hid (cutB s = (s.extract 0 i, s.extract (i + 1) s.size, true)) := Lib.hid (by unfold cutB; rw [if_pos hi, hi']; simp)
    have HI := Lib.hid hi'; clear hi' hi h
    have s1 : IntKind.i64.wrap ((i : Int) + 1) = (i : Int) + 1 := IntWalk.i64_in _ (by omega)
    have S1 := Lib.hid s1
    go_enter Try.func53, Try.ntmps53
    go_wp2_with fail
    refine (Try.stringslite_Index_one _ _ _).mono ?_
    rintro e w' ⟨rfl, rfl⟩
    rw [HI.out]
    go_wp2_with fail
    go_quiet (fail)
    go_wp2_with fail
    go_ret3
    exact ⟨by simp [E1.out], _, rfl⟩
  · have E1 : Hid (cutB s = (s, ⟨#[]⟩, false)) := Lib.hid (by unfold cutB; rw [if_neg hi])
    have hi2 : Lib.indexByte s.data.toList 58 = -1 := by omega
    have HI := Lib.hid hi2; clear hi2 hi h
    go_enter Try.func53, Try.ntmps53
    go_wp2_with fail
    refine (Try.stringslite_Index_one _ _ _).mono ?_
    rintro e w' ⟨rfl, rfl⟩
    rw [HI.out]
    go_wp2_with fail
    go_ret3
    exact ⟨by simp [E1.out], 0, rfl⟩
theorem cutB_size (s : ByteArray) : (cutB s).1.size ≤ s.size ∧ (cutB s).2.1.size ≤ s.size := by
  unfold cutB
  split
  · simp only [ByteArray.size_extract]; exact ⟨by omega, by omega⟩
  · exact ⟨Nat.le_refl _, Nat.zero_le _⟩
theorem cut2_calls (s : ByteArray) (w : World) (hs : s.size ≤ 9223372036854775807) :
    Calls Try.prog 47 #[.string s, .string ⟨#[58]⟩] w fun e w' => e = .returned (.tuple #[.string (cutB s).1, .string (cutB s).2.1, .bool (cutB s).2.2]) ∧ ∃ n, w' = w.drewN n := by
  go_enter Try.func47, Try.ntmps47
  go_wp2_with fail
  refine (cut_calls s w hs).mono ?_
  rintro e w' ⟨rfl, n, rfl⟩
  go_wp2_with fail
  go_ret3
  exact ⟨by simp, _, rfl⟩

def serverB (s : ByteArray) : Bool := allF (withP ⟨#[46, 45]⟩ plainP) 50 (cutB s).1 && (!(cutB s).2.2 || allF digitP 5 (cutB s).2.1)

theorem server_calls (s : ByteArray) (w : World) (hs : s.size ≤ 9223372036854775807) :
    Calls Try.prog 37 #[.string s] w fun e w' => e = .returned (.bool (serverB s)) ∧ Below w.heap.size w w' := by
  have hz := cutB_size s
  have HD : Hid (serverB s = (allF (withP ⟨#[46, 45]⟩ plainP) 50 (cutB s).1 && (!(cutB s).2.2 || allF digitP 5 (cutB s).2.1))) := Lib.hid rfl
  generalize serverB s = R at *
  go_enter Try.func37, Try.ntmps37
  go_wp2_with fail
  refine (cut2_calls s w hs).mono ?_
  rintro e w1 ⟨rfl, n, rfl⟩
  generalize cutB s = c at *
  obtain ⟨h, p, two⟩ := c
  dsimp only at *
  go_wp2_with fail
  refine (with_calls _ 49 plainP _ plain_fit).mono ?_
  rintro e w2 ⟨lb, rfl, hf, hb⟩
  have HF := Lib.hid hf; clear hf
  have hb1 : Below w.heap.size w w2 := (pw_below_drewN (Below.refl _ _) n).trans hb
  clear hb
  go_wp2_with fail
  refine (all_calls h 50 54 lb _ w2 (by omega) HF.out).mono ?_
  rintro e w3 ⟨rfl, m, rfl⟩
  have hb2 := pw_below_drewN hb1 m
  generalize allF (withP ⟨#[46, 45]⟩ plainP) 50 h = b at *
  cases b
  · go_wp2_with fail
    go_ret
    exact ⟨ret_bool (by rw [HD.out]; rfl), hb2⟩
  · cases two
    · go_wp2_with fail
      go_ret
      exact ⟨ret_bool (by rw [HD.out]; rfl), hb2⟩
    · go_wp2_with fail
      refine (all_calls p 5 46 #[] digitP _ (by omega) (digit_fit.fit _)).mono ?_
      rintro e w4 ⟨rfl, j, rfl⟩
      have hb3 := pw_below_drewN hb1 (m + j)
      generalize allF digitP 5 p = b at *
      go_wp2_with fail
      go_ret
      exact ⟨ret_bool (by rw [HD.out]; simp), hb3⟩
def roomB (s : ByteArray) : Bool :=
  !s.toList.isEmpty && (s.data.toList.headD 0 == 33) && ((cutB (s.extract 1 s.size)).2.2 && (allF opaqueP 50 (cutB (s.extract 1 s.size)).1 && serverB (cutB (s.extract 1 s.size)).2.1))

/-- What Split hands back: a kind, two texts, an error; r: it is a room's name. -/
def SplitPost (w : World) (r : Bool) (e : Ending) (w' : World) : Prop :=
  ∃ (k : Int) (p h : ByteArray) (er : Value), e = .returned (.tuple #[.int .i64 k, .string p, .string h, er]) ∧ (er = .nilIface ∧ r = (k == 1) ∨ er = .iface 78 (.int .i64 7) ∧ r = false) ∧ Below w.heap.size w w'

theorem Fit.drewN {g : Nat} {lb : Array Value} {p : Int → Bool} {w : World} (h : Fit g lb p w) (n : Nat) : Fit g lb p (w.drewN n) :=
  ⟨h.1, fun c W h0 h1 hb => h.2 c W h0 h1 ((pw_below_drewN (Below.refl w.heap.size w) n).trans hb)⟩
theorem list_len (s : ByteArray) : s.data.toList.length = s.size := by rw [Array.length_toList]; rfl
theorem str_empty {s : ByteArray} (h : s.size = 0) : s.toList.isEmpty = true := by
  have h1 : s = ByteArray.empty := WideShapes.bytes_inj (by
    have := list_len s
    rw [h] at this
    rw [List.eq_nil_of_length_eq_zero this]; rfl)
  rw [← decide_eq_emptyBytes]
  exact decide_eq_true h1
theorem str_some {s : ByteArray} (h : 0 < s.size) : s.toList.isEmpty = false := by
  rw [← decide_eq_emptyBytes]
  refine decide_eq_false fun e => ?_
  rw [e] at h
  exact absurd h (by decide)
theorem str_head {s : ByteArray} (h : 0 < s.size) : s.data.toList.headD 0 = s[0] := by
  have hl := list_len s
  cases hs : s.data.toList with
  | nil => rw [hs] at hl; simp at hl; omega
  | cons a l =>
    have : s.data.toList[0]'(by rw [hl]; exact h) = a := by simp [hs]
    exact this.symm

theorem split_calls (s : ByteArray) (w : World) (hs : s.size ≤ 9223372036854775807) :
    Calls Try.prog 38 #[.string s] w (SplitPost w (roomB s)) := by
  by_cases he : s.size = 0
  · have h1 := str_empty he
    have HR : Hid (roomB s = false) := Lib.hid (by unfold roomB; rw [h1]; rfl)
    clear he
    go_enter Try.func38, Try.ntmps38
    go_wp2_with fail
    refine bodyPost_ret (v := .tuple #[.int .i64 0, .string ⟨#[]⟩, .string ⟨#[]⟩, .iface 78 (.int .i64 7)]) (by simp [results, Try.results38, go_sem]) rfl ?_
    exact ⟨0, ⟨#[]⟩, ⟨#[]⟩, _, rfl, .inr ⟨rfl, HR.out⟩, Below.refl _ _⟩
  · have hp : 0 < s.size := by omega
    have h1 := str_some hp
    have HR : Hid (roomB s = ((s[0] == 33) && ((cutB (s.extract 1 s.size)).2.2 && (allF opaqueP 50 (cutB (s.extract 1 s.size)).1 && serverB (cutB (s.extract 1 s.size)).2.1)))) := Lib.hid (by unfold roomB; rw [h1, str_head hp]; simp)
    clear he
    have hz : (s.extract 1 s.size).size ≤ 9223372036854775807 := by rw [ByteArray.size_extract]; omega
    have hz2 := cutB_size (s.extract 1 s.size)
    have hb := (s[0]).toNat_lt
    generalize roomB s = R at *
    by_cases h33 : s[0].toNat = 33
    · have e33 : (s[0] == 33) = true := by simp [← UInt8.toNat_inj, h33]
      rw [e33] at HR
      clear e33
      go_enter Try.func38, Try.ntmps38
      go_wp2_with fail
      refine (with_calls _ 49 plainP _ plain_fit).mono ?_
      rintro e w1 ⟨lb, rfl, hf, hb0⟩
      have HF := Lib.hid hf; clear hf
      go_wp2_with fail
      refine (cut2_calls (s.extract 1 s.size) _ hz).mono ?_
      rintro e w2 ⟨rfl, n, rfl⟩
      have hb1 := pw_below_drewN hb0 n
      generalize cutB (s.extract 1 s.size) = c at *
      obtain ⟨p, h, two⟩ := c
      dsimp only at hz2 HR
      cases two
      · go_wp2_with fail
        refine bodyPost_ret (v := .tuple #[.int .i64 0, .string ⟨#[]⟩, .string ⟨#[]⟩, .iface 78 (.int .i64 7)]) (by simp [results, Try.results38, go_sem]) rfl ?_
        exact ⟨0, ⟨#[]⟩, ⟨#[]⟩, _, rfl, .inr ⟨rfl, by rw [HR.out]; simp⟩, hb1⟩
      · go_wp2_with fail
        refine (all_calls p 50 50 #[] opaqueP _ (by omega) (opaque_fit.fit _)).mono ?_
        rintro e w3 ⟨rfl, m, rfl⟩
        have hb2 := pw_below_drewN hb0 (n + m)
        generalize allF opaqueP 50 p = b at *
        cases b
        · go_wp2_with fail
          refine bodyPost_ret (v := .tuple #[.int .i64 0, .string ⟨#[]⟩, .string ⟨#[]⟩, .iface 78 (.int .i64 7)]) (by simp [results, Try.results38, go_sem]) rfl ?_
          exact ⟨0, ⟨#[]⟩, ⟨#[]⟩, _, rfl, .inr ⟨rfl, by rw [HR.out]; simp⟩, hb2⟩
        · go_wp2_with fail
          refine (server_calls h _ (by omega)).mono ?_
          rintro e w4 ⟨rfl, hb4⟩
          have hb5 : Below w.heap.size w w4 := hb2.trans (hb4.mono (hb2.size))
          generalize serverB h = b at *
          cases b
          · go_wp2_with fail
            refine bodyPost_ret (v := .tuple #[.int .i64 0, .string ⟨#[]⟩, .string ⟨#[]⟩, .iface 78 (.int .i64 7)]) (by simp [results, Try.results38, go_sem]) rfl ?_
            exact ⟨0, ⟨#[]⟩, ⟨#[]⟩, _, rfl, .inr ⟨rfl, by rw [HR.out]; simp⟩, hb5⟩
          · go_wp2_with fail
            refine bodyPost_ret (v := .tuple #[.int .i64 1, .string p, .string h, .nilIface]) (by simp [results, Try.results38, go_sem]) rfl ?_
            exact ⟨1, p, h, _, rfl, .inl ⟨rfl, by rw [HR.out]; simp⟩, hb5⟩
    · have e33 : (s[0] == 33) = false := by simp [← UInt8.toNat_inj, h33]
      rw [e33] at HR
      clear e33
      by_cases h64 : s[0].toNat = 64
      · go_enter Try.func38, Try.ntmps38
        go_wp2_with fail
        refine (with_calls _ 49 plainP _ plain_fit).mono ?_
        rintro e w1 ⟨lb, rfl, hf, hb0⟩
        have HF := Lib.hid hf; clear hf
        go_wp2_with fail
        refine (cut2_calls (s.extract 1 s.size) _ hz).mono ?_
        rintro e w2 ⟨rfl, n, rfl⟩
        have hb1 := pw_below_drewN hb0 n
        generalize cutB (s.extract 1 s.size) = c at *
        obtain ⟨p, h, two⟩ := c
        dsimp only at hz2 HR
        cases two
        · go_wp2_with fail
          refine bodyPost_ret (v := .tuple #[.int .i64 0, .string ⟨#[]⟩, .string ⟨#[]⟩, .iface 78 (.int .i64 7)]) (by simp [results, Try.results38, go_sem]) rfl ?_
          exact ⟨0, ⟨#[]⟩, ⟨#[]⟩, _, rfl, .inr ⟨rfl, by rw [HR.out]; simp⟩, hb1⟩
        · go_wp2_with fail
          refine (all_calls p 50 54 lb _ _ (by omega) (HF.out.drewN n)).mono ?_
          rintro e w3 ⟨rfl, m, rfl⟩
          have hb2 := pw_below_drewN hb0 (n + m)
          generalize allF (withP ⟨#[46, 95, 61, 45, 47]⟩ plainP) 50 p = b at *
          cases b
          · go_wp2_with fail
            refine bodyPost_ret (v := .tuple #[.int .i64 0, .string ⟨#[]⟩, .string ⟨#[]⟩, .iface 78 (.int .i64 7)]) (by simp [results, Try.results38, go_sem]) rfl ?_
            exact ⟨0, ⟨#[]⟩, ⟨#[]⟩, _, rfl, .inr ⟨rfl, by rw [HR.out]; simp⟩, hb2⟩
          · go_wp2_with fail
            refine (server_calls h _ (by omega)).mono ?_
            rintro e w4 ⟨rfl, hb4⟩
            have hb5 : Below w.heap.size w w4 := hb2.trans (hb4.mono (hb2.size))
            generalize serverB h = b at *
            cases b
            · go_wp2_with fail
              refine bodyPost_ret (v := .tuple #[.int .i64 0, .string ⟨#[]⟩, .string ⟨#[]⟩, .iface 78 (.int .i64 7)]) (by simp [results, Try.results38, go_sem]) rfl ?_
              exact ⟨0, ⟨#[]⟩, ⟨#[]⟩, _, rfl, .inr ⟨rfl, by rw [HR.out]; simp⟩, hb5⟩
            · go_wp2_with fail
              refine bodyPost_ret (v := .tuple #[.int .i64 2, .string p, .string h, .nilIface]) (by simp [results, Try.results38, go_sem]) rfl ?_
              exact ⟨2, p, h, _, rfl, .inl ⟨rfl, by rw [HR.out]; simp⟩, hb5⟩
      · by_cases h35 : s[0].toNat = 35
        · go_enter Try.func38, Try.ntmps38
          go_wp2_with fail
          refine (with_calls _ 49 plainP _ plain_fit).mono ?_
          rintro e w1 ⟨lb, rfl, hf, hb0⟩
          have HF := Lib.hid hf; clear hf
          go_wp2_with fail
          refine (cut2_calls (s.extract 1 s.size) _ hz).mono ?_
          rintro e w2 ⟨rfl, n, rfl⟩
          have hb1 := pw_below_drewN hb0 n
          generalize cutB (s.extract 1 s.size) = c at *
          obtain ⟨p, h, two⟩ := c
          dsimp only at hz2 HR
          cases two
          · go_wp2_with fail
            refine bodyPost_ret (v := .tuple #[.int .i64 0, .string ⟨#[]⟩, .string ⟨#[]⟩, .iface 78 (.int .i64 7)]) (by simp [results, Try.results38, go_sem]) rfl ?_
            exact ⟨0, ⟨#[]⟩, ⟨#[]⟩, _, rfl, .inr ⟨rfl, by rw [HR.out]; simp⟩, hb1⟩
          · go_wp2_with fail
            refine (all_calls p 50 54 lb _ _ (by omega) (HF.out.drewN n)).mono ?_
            rintro e w3 ⟨rfl, m, rfl⟩
            have hb2 := pw_below_drewN hb0 (n + m)
            generalize allF (withP ⟨#[46, 95, 61, 45, 47]⟩ plainP) 50 p = b at *
            cases b
            · go_wp2_with fail
              refine bodyPost_ret (v := .tuple #[.int .i64 0, .string ⟨#[]⟩, .string ⟨#[]⟩, .iface 78 (.int .i64 7)]) (by simp [results, Try.results38, go_sem]) rfl ?_
              exact ⟨0, ⟨#[]⟩, ⟨#[]⟩, _, rfl, .inr ⟨rfl, by rw [HR.out]; simp⟩, hb2⟩
            · go_wp2_with fail
              refine (server_calls h _ (by omega)).mono ?_
              rintro e w4 ⟨rfl, hb4⟩
              have hb5 : Below w.heap.size w w4 := hb2.trans (hb4.mono (hb2.size))
              generalize serverB h = b at *
              cases b
              · go_wp2_with fail
                refine bodyPost_ret (v := .tuple #[.int .i64 0, .string ⟨#[]⟩, .string ⟨#[]⟩, .iface 78 (.int .i64 7)]) (by simp [results, Try.results38, go_sem]) rfl ?_
                exact ⟨0, ⟨#[]⟩, ⟨#[]⟩, _, rfl, .inr ⟨rfl, by rw [HR.out]; simp⟩, hb5⟩
              · go_wp2_with fail
                refine bodyPost_ret (v := .tuple #[.int .i64 3, .string p, .string h, .nilIface]) (by simp [results, Try.results38, go_sem]) rfl ?_
                exact ⟨3, p, h, _, rfl, .inl ⟨rfl, by rw [HR.out]; simp⟩, hb5⟩
        · go_enter Try.func38, Try.ntmps38
          go_wp2_with fail
          refine (with_calls _ 49 plainP _ plain_fit).mono ?_
          rintro e w1 ⟨lb, rfl, hf, hb0⟩
          have HF := Lib.hid hf; clear hf
          go_wp2_with fail
          refine bodyPost_ret (v := .tuple #[.int .i64 0, .string ⟨#[]⟩, .string ⟨#[]⟩, .iface 78 (.int .i64 7)]) (by simp [results, Try.results38, go_sem]) rfl ?_
          exact ⟨0, ⟨#[]⟩, ⟨#[]⟩, _, rfl, .inr ⟨rfl, by rw [HR.out]; simp⟩, hb0⟩
theorem is_calls (s : ByteArray) (w : World) (hs : s.size ≤ 9223372036854775807) :
    Calls Try.prog 26 #[.int .i64 1, .string s] w fun e w' => e = .returned (.bool (roomB s)) ∧ Below w.heap.size w w' := by
  go_enter Try.func26, Try.ntmps26
  go_wp2_with fail
  refine (split_calls s w hs).mono ?_
  rintro e w1 ⟨k, p, h, er, rfl, hr, hb⟩
  rcases hr with ⟨rfl, hr⟩ | ⟨rfl, hr⟩
  · have HR := Lib.hid hr; clear hr
    go_wp2_with fail
    go_ret
    exact ⟨ret_bool HR.out.symm, hb⟩
  · have HR := Lib.hid hr; clear hr
    go_wp2_with fail
    go_ret
    exact ⟨ret_bool HR.out.symm, hb⟩
end Go.Proofs.Yteamocejpankdaa
