/-
  Layer 3: bytes of texts; the kinds of bytes, in the program and in the document's text; where a run of bytes ends.
-/
import Derived.Test.YtejpjclbeogajaaDoorRegion
namespace Go.Proofs.YtejpjclbeogajaaDoor
open Go.RowKit
set_option linter.unusedVariables false
set_option linter.unusedSimpArgs false

/-- a text's byte; 0 behind it -/
def bt (s : ByteArray) (i : Nat) : Int := if h : i < s.size then (s[i].toNat : Int) else 0
theorem bt_in (s : ByteArray) (i : Nat) (h : i < s.size) : (s[i].toNat : Int) = bt s i := by rw [bt, dif_pos h]
theorem bt_out (s : ByteArray) (i : Nat) (h : ¬ i < s.size) : bt s i = 0 := by rw [bt, dif_neg h]
theorem bt_bd (s : ByteArray) (i : Nat) : 0 ≤ bt s i ∧ bt s i < 256 := by
  unfold bt; split
  · have := s[i].toNat_lt; omega
  · omega

def isLetter (c : Int) : Bool := decide (c = 95) || (decide (97 ≤ c) && decide (c ≤ 122)) || (decide (65 ≤ c) && decide (c ≤ 90))
def isDigit (c : Int) : Bool := decide (48 ≤ c) && decide (c ≤ 57)
def isNamed (c : Int) : Bool := isLetter c || isDigit c
def isBlank (c : Int) : Bool := decide (c = 32) || decide (c = 9) || decide (c = 10) || decide (c = 13)
def notLine (c : Int) : Bool := !decide (c = 10)
def inQuote (c : Int) : Bool := decide (32 ≤ c) && !decide (c = 34) && !decide (c = 92) && !decide (c = 127)

theorem ret_bool {a b : Bool} (h : a = b) : Ending.returned (.bool a) = .returned (.bool b) := by rw [h]

/-- what a function over a byte comes to -/
def ByteFn (fid : Nat) (p : Int → Bool) : Prop := ∀ (c : Int) (w : World), 0 ≤ c → c < 256 → Calls Tryd.prog fid #[.int .u8 c] w fun e w' => e = .returned (.bool (p c)) ∧ w = w'

set_option maxHeartbeats 400000 in
theorem lexLetter_calls : ByteFn 108 isLetter := by
  intro c w h0 h1
  go_enter Tryd.func108, Tryd.ntmps108
  go_wp2
  all_goals go_ret
  all_goals exact ⟨ret_bool (by rw [Bool.eq_iff_iff]; simp_all [isLetter, bne] <;> omega), rfl⟩
set_option maxHeartbeats 400000 in
theorem lexDigit_calls : ByteFn 110 isDigit := by
  intro c w h0 h1
  go_enter Tryd.func110, Tryd.ntmps110
  go_wp2
  all_goals go_ret
  all_goals exact ⟨ret_bool (by rw [Bool.eq_iff_iff]; simp_all [isDigit, bne] <;> omega), rfl⟩
set_option maxHeartbeats 400000 in
theorem lexNamed_calls : ByteFn 109 isNamed := by
  intro c w h0 h1
  go_enter Tryd.func109, Tryd.ntmps109
  go_wp2_with (first | (go_at_call 108; refine (lexLetter_calls _ _ h0 h1).mono ?_; rintro e w' ⟨rfl, rfl⟩) | (go_at_call 110; refine (lexDigit_calls _ _ h0 h1).mono ?_; rintro e w' ⟨rfl, rfl⟩))
  all_goals go_ret
  all_goals exact ⟨ret_bool (by rw [Bool.eq_iff_iff]; simp_all [isNamed]), rfl⟩
set_option maxHeartbeats 400000 in
theorem lexBlank_calls : ByteFn 71 isBlank := by
  intro c w h0 h1
  go_enter Tryd.func71, Tryd.ntmps71
  go_wp2
  all_goals go_ret
  all_goals exact ⟨ret_bool (by rw [Bool.eq_iff_iff]; simp_all [isBlank, bne] <;> omega), rfl⟩
set_option maxHeartbeats 400000 in
theorem lexLine_calls : ByteFn 107 notLine := by
  intro c w h0 h1
  go_enter Tryd.func107, Tryd.ntmps107
  go_wp2
  all_goals go_ret
  all_goals exact ⟨ret_bool (by rw [Bool.eq_iff_iff]; simp_all [notLine, bne] <;> omega), rfl⟩
set_option maxHeartbeats 400000 in
theorem lexQuote_calls : ByteFn 112 inQuote := by
  intro c w h0 h1
  go_enter Tryd.func112, Tryd.ntmps112
  go_wp2
  all_goals go_ret
  all_goals exact ⟨ret_bool (by rw [Bool.eq_iff_iff]; simp_all [inQuote, bne] <;> omega), rfl⟩
set_option maxHeartbeats 400000 in
theorem refDigit_calls : ByteFn 80 isDigit := by
  intro c w h0 h1
  go_enter Tryd.func80, Tryd.ntmps80
  go_wp2
  all_goals go_ret
  all_goals exact ⟨ret_bool (by rw [Bool.eq_iff_iff]; simp_all [isDigit, bne] <;> omega), rfl⟩

/-- where a run of bytes of a kind ends -/
def spanN (s : ByteArray) (p : Int → Bool) : Nat → Nat → Nat
  | 0, i => i
  | n + 1, i => if i < s.size ∧ p (bt s i) = true then spanN s p n (i + 1) else i
def spanEnd (s : ByteArray) (p : Int → Bool) (i : Nat) : Nat := spanN s p (s.size - i) i

theorem spanN_eq (s : ByteArray) (p : Int → Bool) : ∀ (n i j : Nat), i ≤ j → j ≤ s.size → s.size - i ≤ n → (∀ x, i ≤ x → x < j → p (bt s x) = true) → (j = s.size ∨ p (bt s j) = false) → spanN s p n i = j := by
  intro n
  induction n with
  | zero => intro i j h1 h2 h3 h4 h5; simp only [spanN]; omega
  | succ n ih =>
    intro i j h1 h2 h3 h4 h5
    simp only [spanN]
    by_cases hij : i = j
    · subst hij
      rw [if_neg]
      rintro ⟨ha, hb⟩
      rcases h5 with h | h
      · omega
      · rw [h] at hb; cases hb
    · rw [if_pos ⟨by omega, h4 i (Nat.le_refl _) (by omega)⟩]
      exact ih (i + 1) j (by omega) h2 (by omega) (fun x hx hx2 => h4 x (by omega) hx2) h5
theorem spanEnd_eq (s : ByteArray) (p : Int → Bool) (i j : Nat) (h1 : i ≤ j) (h2 : j ≤ s.size) (h4 : ∀ x, i ≤ x → x < j → p (bt s x) = true) (h5 : j = s.size ∨ p (bt s j) = false) : spanEnd s p i = j :=
  spanN_eq s p _ i j h1 h2 (Nat.le_refl _) h4 h5
theorem spanN_bd (s : ByteArray) (p : Int → Bool) : ∀ (n i : Nat), i ≤ s.size → s.size - i ≤ n → i ≤ spanN s p n i ∧ spanN s p n i ≤ s.size ∧ (∀ x, i ≤ x → x < spanN s p n i → p (bt s x) = true) ∧ (spanN s p n i = s.size ∨ p (bt s (spanN s p n i)) = false) := by
  intro n
  induction n with
  | zero => intro i h1 h2; simp only [spanN]; exact ⟨Nat.le_refl _, h1, fun x hx hx2 => by omega, .inl (by omega)⟩
  | succ n ih =>
    intro i h1 h2
    simp only [spanN]
    by_cases h : i < s.size ∧ p (bt s i) = true
    · rw [if_pos h]
      obtain ⟨a, b, c, d⟩ := ih (i + 1) (by omega) (by omega)
      refine ⟨by omega, b, fun x hx hx2 => ?_, d⟩
      by_cases e : x = i
      · rw [e]; exact h.2
      · exact c x (by omega) hx2
    · rw [if_neg h]
      refine ⟨Nat.le_refl _, h1, fun x hx hx2 => by omega, ?_⟩
      by_cases e : i = s.size
      · exact .inl e
      · refine .inr ?_
        cases hp : p (bt s i)
        · rfl
        · exact absurd ⟨by omega, hp⟩ h
theorem spanEnd_bd (s : ByteArray) (p : Int → Bool) (i : Nat) (h : i ≤ s.size) : i ≤ spanEnd s p i ∧ spanEnd s p i ≤ s.size ∧ (∀ x, i ≤ x → x < spanEnd s p i → p (bt s x) = true) ∧ (spanEnd s p i = s.size ∨ p (bt s (spanEnd s p i)) = false) :=
  spanN_bd s p _ i h (Nat.le_refl _)

end Go.Proofs.YtejpjclbeogajaaDoor
