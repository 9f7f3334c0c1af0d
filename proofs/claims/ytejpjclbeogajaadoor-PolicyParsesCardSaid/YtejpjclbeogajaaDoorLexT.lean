/-
  Layer 3: what a text's tokens are, byte by byte, as plain functions.
-/
import Derived.Test.YtejpjclbeogajaaDoorLexG
import Derived.Test.YtejpjclbeogajaaDoorUtf
namespace Go.Proofs.YtejpjclbeogajaaDoor
open Go.RowKit
set_option linter.unusedVariables false
set_option linter.unusedSimpArgs false

theorem behindN_dec (s : ByteArray) (i : Nat) (h : isRemark s i = true) : i < s.size ∧ i + 1 ≤ remarkEnd s i ∧ remarkEnd s i ≤ s.size := by
  have h1 : bt s i = 47 := by
    simp only [isRemark, Bool.and_eq_true, decide_eq_true_eq] at h; exact h.1
  have hi : i < s.size := by
    by_cases hz : i < s.size
    · exact hz
    · rw [bt_out s i hz] at h1; omega
  obtain ⟨a, b, c, d⟩ := spanEnd_bd s notLine i (by omega)
  refine ⟨hi, ?_, b⟩
  by_cases e : spanEnd s notLine i = i
  · rw [e] at d
    rcases d with d | d
    · omega
    · rw [h1] at d; simp [notLine] at d
  · unfold remarkEnd; omega

/-- the place of what stands behind blanks and remarks -/
def behindN (s : ByteArray) : Nat → Nat → Nat
  | 0, i => i
  | n + 1, i => if i < s.size then (if isBlank (bt s i) = true then behindN s n (i + 1) else if isRemark s i = true then behindN s n (remarkEnd s i) else i) else i
def behind (s : ByteArray) (i : Nat) : Nat := behindN s (s.size - i) i

theorem behindN_fuel (s : ByteArray) : ∀ (n m i : Nat), s.size - i ≤ n → s.size - i ≤ m → behindN s n i = behindN s m i := by
  intro n
  induction n with
  | zero =>
    intro m i h1 h2
    cases m with
    | zero => rfl
    | succ m => simp only [behindN]; rw [if_neg (by omega)]
  | succ n ih =>
    intro m i h1 h2
    cases m with
    | zero => simp only [behindN]; rw [if_neg (by omega)]
    | succ m =>
      simp only [behindN]
      by_cases hi : i < s.size
      · rw [if_pos hi, if_pos hi]
        split
        · exact ih m (i + 1) (by omega) (by omega)
        · split
          · rename_i hr
            have := behindN_dec s i hr
            exact ih m _ (by omega) (by omega)
          · rfl
      · rw [if_neg hi, if_neg hi]
theorem behind_blank (s : ByteArray) (i : Nat) (hi : i < s.size) (h : isBlank (bt s i) = true) : behind s i = behind s (i + 1) := by
  obtain ⟨n, hn⟩ : ∃ n, s.size - i = n + 1 := ⟨s.size - i - 1, by omega⟩
  rw [behind, hn]
  simp only [behindN]
  rw [if_pos hi, if_pos h]
  exact behindN_fuel s _ _ _ (by omega) (by omega)
theorem isRemark_not_blank (s : ByteArray) (i : Nat) (h : isRemark s i = true) : isBlank (bt s i) = false := by
  simp only [isRemark, Bool.and_eq_true, decide_eq_true_eq] at h
  rw [h.1]; rfl
theorem behind_remark (s : ByteArray) (i : Nat) (h : isRemark s i = true) : behind s i = behind s (remarkEnd s i) := by
  have hd := behindN_dec s i h
  obtain ⟨n, hn⟩ : ∃ n, s.size - i = n + 1 := ⟨s.size - i - 1, by omega⟩
  rw [behind, hn]
  simp only [behindN]
  rw [if_pos hd.1, if_neg (by rw [isRemark_not_blank s i h]; simp), if_pos h]
  exact behindN_fuel s _ _ _ (by omega) (by omega)
theorem behind_stop (s : ByteArray) (i : Nat) (h1 : isBlank (bt s i) = false) (h2 : isRemark s i = false) : behind s i = i := by
  unfold behind
  cases s.size - i with
  | zero => rfl
  | succ n =>
    simp only [behindN]
    split
    · rw [if_neg (by rw [h1]; simp), if_neg (by rw [h2]; simp)]
    · rfl
theorem behind_out (s : ByteArray) (i : Nat) (h : ¬ i < s.size) : behind s i = i := by
  have : s.size - i = 0 := by omega
  rw [behind, this]; rfl
theorem behind_run (s : ByteArray) : ∀ (n i j : Nat), j = i + n → j ≤ s.size → (∀ x, i ≤ x → x < j → isBlank (bt s x) = true) → behind s i = behind s j := by
  intro n
  induction n with
  | zero => intro i j h1 h2 h3; rw [h1]; rfl
  | succ n ih =>
    intro i j h1 h2 h3
    rw [behind_blank s i (by omega) (h3 i (by omega) (by omega))]
    exact ih (i + 1) j (by omega) h2 (fun x hx hx2 => h3 x (by omega) hx2)
theorem behind_span (s : ByteArray) (i : Nat) (h : i ≤ s.size) : behind s (spanEnd s isBlank i) = behind s i := by
  obtain ⟨a, b, c, d⟩ := spanEnd_bd s isBlank i h
  exact (behind_run s (spanEnd s isBlank i - i) i _ (by omega) b c).symm
theorem behind_bd (s : ByteArray) (i : Nat) (h : i ≤ s.size) : i ≤ behind s i ∧ behind s i ≤ s.size := by
  have key : ∀ (n i : Nat), i ≤ s.size → i ≤ behindN s n i ∧ behindN s n i ≤ s.size := by
    intro n
    induction n with
    | zero => intro i h; exact ⟨Nat.le_refl _, h⟩
    | succ n ih =>
      intro i h
      simp only [behindN]
      split
      · split
        · have := ih (i + 1) (by omega); omega
        · split
          · rename_i hr
            have hd := behindN_dec s i hr
            have := ih _ hd.2.2; omega
          · omega
      · omega
  exact key _ _ h

def hasSign (sg : ByteArray) (c : Int) : Bool := decide (∃ j, j < sg.size ∧ bt sg j = c)
def numStart (s : ByteArray) (i : Nat) : Bool := isDigit (bt s i) || (decide (bt s i = 45) && isDigit (bt s (i + 1)))

structure Tok where
  kind : Int
  text : ByteArray
  pos : Nat

/-- the token at a place: its kind, its text, and the place behind it -/
def oneB (s sg : ByteArray) (i : Nat) : Option (Int × ByteArray × Nat) :=
  if s.size ≤ i then some (0, ⟨#[]⟩, i)
  else if isLetter (bt s i) = true then some (1, s.extract i (spanEnd s isNamed i), spanEnd s isNamed i)
  else if numStart s i = true then
    (if goodB (s.extract i (spanEnd s isDigit (i + 1))) = true ∧ isLetter (bt s (spanEnd s isDigit (i + 1))) = false then some (2, s.extract i (spanEnd s isDigit (i + 1)), spanEnd s isDigit (i + 1)) else none)
  else if bt s i = 34 then
    (if bt s (spanEnd s inQuote (i + 1)) = 34 ∧ utf8Bad (s.extract (i + 1) (spanEnd s inQuote (i + 1))) < 0 then some (3, s.extract (i + 1) (spanEnd s inQuote (i + 1)), spanEnd s inQuote (i + 1) + 1) else none)
  else if hasSign sg (bt s i) = true then some (4, s.extract i (i + 1), i + 1)
  else none

/-- what may still come of a text from a place on, n tokens at the most -/
def toksF (s sg : ByteArray) : Nat → Nat → Except (Int × Nat) (List Tok)
  | 0, i => .error (16, behind s i)
  | n + 1, i =>
    match oneB s sg (behind s i) with
    | none => .error (10, behind s i)
    | some (k, t, e) => if k = 0 then .ok [⟨k, t, behind s i⟩] else
      match toksF s sg n e with
      | .error x => .error x
      | .ok l => .ok (⟨k, t, behind s i⟩ :: l)
/-- a text's tokens, or the fault -/
def toks (s sg : ByteArray) : Except (Int × Nat) (List Tok) := if 8192 < s.size then .error (16, 8192) else toksF s sg 2048 0
def pre (acc : List Tok) : Except (Int × Nat) (List Tok) → Except (Int × Nat) (List Tok)
  | .error x => .error x
  | .ok l => .ok (acc ++ l)

theorem toksF_go (s sg : ByteArray) (n i : Nat) (k : Int) (t : ByteArray) (e : Nat) (acc : List Tok) (h : oneB s sg (behind s i) = some (k, t, e)) (hk : k ≠ 0) :
    pre acc (toksF s sg (n + 1) i) = pre (acc ++ [⟨k, t, behind s i⟩]) (toksF s sg n e) := by
  simp only [toksF, h]
  rw [if_neg hk]
  cases toksF s sg n e with
  | error x => rfl
  | ok l => simp [pre]
theorem toksF_end (s sg : ByteArray) (n i : Nat) (t : ByteArray) (e : Nat) (h : oneB s sg (behind s i) = some (0, t, e)) : toksF s sg (n + 1) i = .ok [⟨0, t, behind s i⟩] := by
  simp only [toksF, h]; rfl
theorem toksF_bad (s sg : ByteArray) (n i : Nat) (h : oneB s sg (behind s i) = none) : toksF s sg (n + 1) i = .error (10, behind s i) := by
  simp only [toksF, h]
theorem toksF_many (s sg : ByteArray) (i : Nat) : toksF s sg 0 i = .error (16, behind s i) := rfl

theorem oneB_end (s sg : ByteArray) (i : Nat) (h : i = s.size) : oneB s sg i = some (0, ⟨#[]⟩, i) := by rw [oneB, if_pos (by omega)]
theorem oneB_name (s sg : ByteArray) (i : Nat) (h : i < s.size) (hl : isLetter (bt s i) = true) : oneB s sg i = some (1, s.extract i (spanEnd s isNamed i), spanEnd s isNamed i) := by
  rw [oneB, if_neg (by omega), if_pos hl]
theorem oneB_num (s sg : ByteArray) (i : Nat) (h : i < s.size) (hl : isLetter (bt s i) = false) (hn : numStart s i = true) :
    oneB s sg i = if goodB (s.extract i (spanEnd s isDigit (i + 1))) = true ∧ isLetter (bt s (spanEnd s isDigit (i + 1))) = false then some (2, s.extract i (spanEnd s isDigit (i + 1)), spanEnd s isDigit (i + 1)) else none := by
  rw [oneB, if_neg (by omega), if_neg (by rw [hl]; simp), if_pos hn]
theorem oneB_quote (s sg : ByteArray) (i : Nat) (h : i < s.size) (hc : bt s i = 34) :
    oneB s sg i = if bt s (spanEnd s inQuote (i + 1)) = 34 ∧ utf8Bad (s.extract (i + 1) (spanEnd s inQuote (i + 1))) < 0 then some (3, s.extract (i + 1) (spanEnd s inQuote (i + 1)), spanEnd s inQuote (i + 1) + 1) else none := by
  rw [oneB, if_neg (by omega), if_neg (by rw [hc]; simp [isLetter]), if_neg (by rw [numStart, hc]; simp [isDigit]), if_pos hc]
theorem oneB_sign (s sg : ByteArray) (i : Nat) (h : i < s.size) (hl : isLetter (bt s i) = false) (hn : numStart s i = false) (hc : ¬ bt s i = 34) :
    oneB s sg i = if hasSign sg (bt s i) = true then some (4, s.extract i (i + 1), i + 1) else none := by
  rw [oneB, if_neg (by omega), if_neg (by rw [hl]; simp), if_neg (by rw [hn]; simp), if_neg hc]

theorem oneB_bd (s sg : ByteArray) (i : Nat) (hi : i ≤ s.size) (k : Int) (t : ByteArray) (e : Nat) (h : oneB s sg i = some (k, t, e)) : (k = 0 → i = s.size) ∧ (k ≠ 0 → i < s.size ∧ i < e) ∧ e ≤ s.size := by
  unfold oneB at h
  split at h
  · cases h; omega
  split at h
  · rename_i h1 h2
    have := spanEnd_bd s isNamed i (by omega)
    have hne : spanEnd s isNamed i ≠ i := by
      intro e'
      rcases this.2.2.2 with d | d
      · omega
      · rw [e'] at d; simp [isNamed, h2] at d
    cases h; omega
  split at h
  · have := spanEnd_bd s isDigit (i + 1) (by omega)
    split at h
    · cases h; omega
    · cases h
  split at h
  · have := spanEnd_bd s inQuote (i + 1) (by omega)
    split at h
    · rename_i h5
      have h6 : spanEnd s inQuote (i + 1) < s.size := by
        by_cases hz : spanEnd s inQuote (i + 1) < s.size
        · exact hz
        · rw [bt_out s _ hz] at h5; omega
      cases h; omega
    · cases h
  split at h
  · cases h; omega
  · cases h

end Go.Proofs.YtejpjclbeogajaaDoor
