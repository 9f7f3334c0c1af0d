/-
  Layer 3: where tokens stand in their text.
-/
import Derived.Test.YtlfpakopahmdiaaLexT
namespace Go.Proofs.Ytlfpakopahmdiaa
open Go.RowKit
set_option linter.unusedVariables false
set_option linter.unusedSimpArgs false

/-- a token as it is written -/
def shown (k : Int) (t : ByteArray) : ByteArray := if k = 3 then ⟨#[34]⟩ ++ t ++ ⟨#[34]⟩ else t

theorem one_byte (s : ByteArray) (i : Nat) (hi : i < s.size) (c : UInt8) (h : bt s i = c.toNat) : s.extract i (i + 1) = ⟨#[c]⟩ := by
  have hb := bt_in s i hi
  have e : s[i] = c := UInt8.toNat_inj.1 (by omega)
  apply ByteArray.ext
  apply Array.ext'
  rw [Lib.extract_data]
  have h2 : i < s.data.toList.length := by simpa using hi
  have h3 : s.data.toList[i] = s[i] := rfl
  rw [show i + 1 - i = 1 from by omega, List.take_one, List.head?_drop, List.getElem?_eq_getElem h2, h3, e]; rfl
theorem cat_piece' (s : ByteArray) (a b c : Nat) (h1 : a ≤ b) (h2 : b ≤ c) : s.extract a b ++ s.extract b c = s.extract a c := by
  rw [ByteArray.extract_append_extract]; congr 1 <;> omega

theorem one_shown (s sg : ByteArray) (i : Nat) (hi : i ≤ s.size) (k : Int) (t : ByteArray) (e : Nat) (h : oneB s sg i = some (k, t, e)) : s.extract i e = shown k t ∧ e = i + (shown k t).size ∧ e ≤ s.size ∧ (k = 0 → i = s.size) ∧ (k ≠ 0 → i < s.size ∧ i < e) := by
  have hbd := oneB_bd s sg i hi k t e h
  have key : s.extract i e = shown k t ∧ i ≤ e := by
    unfold oneB at h
    split at h
    · cases h
      refine ⟨?_, Nat.le_refl _⟩
      apply ByteArray.ext; apply Array.ext'
      rw [Lib.extract_data, Nat.sub_self]; rfl
    split at h
    · have := spanEnd_bd s isNamed i (by omega)
      cases h
      exact ⟨rfl, this.1⟩
    split at h
    · have := spanEnd_bd s isDigit (i + 1) (by omega)
      split at h
      · cases h; exact ⟨rfl, by omega⟩
      · cases h
    split at h
    · rename_i h34
      have := spanEnd_bd s inQuote (i + 1) (by omega)
      split at h
      · rename_i h5
        have h6 : spanEnd s inQuote (i + 1) < s.size := by
          by_cases hz : spanEnd s inQuote (i + 1) < s.size
          · exact hz
          · rw [bt_out s _ hz] at h5; omega
        have e1 := one_byte s i (by omega) 34 h34
        have e2 := one_byte s _ h6 34 h5.1
        cases h
        refine ⟨?_, by omega⟩
        have hc : s.extract i (i + 1) ++ s.extract (i + 1) (spanEnd s inQuote (i + 1)) ++ s.extract (spanEnd s inQuote (i + 1)) (spanEnd s inQuote (i + 1) + 1) = s.extract i (spanEnd s inQuote (i + 1) + 1) := by rw [cat_piece' s _ _ _ (by omega) this.1, cat_piece' s _ _ _ (by omega) (by omega)]
        rw [shown, if_pos rfl, ← hc, e1, e2]
      · cases h
    split at h
    · cases h; exact ⟨rfl, by omega⟩
    · cases h
  refine ⟨key.1, ?_, hbd.2.2, hbd.1, hbd.2.1⟩
  have : (s.extract i e).size = e - i := piece_size _ _ _ hbd.2.2
  rw [← key.1, this]; omega

/-- the place behind k tokens -/
def endAt (l : List Tok) (e0 : Nat) : Nat → Nat
  | 0 => e0
  | k + 1 => ((l[k]?).map fun t => t.pos + (shown t.kind t.text).size).getD 0
theorem endAt_cons (t : Tok) (l : List Tok) (e0 k : Nat) : endAt (t :: l) e0 (k + 1) = endAt l (t.pos + (shown t.kind t.text).size) k := by
  cases k with
  | zero => rfl
  | succ k => simp [endAt]

structure PlaceOk (s : ByteArray) (n e e2 k : Nat) (t : Tok) : Prop where
  pos : t.pos = behind s e
  esz : e ≤ s.size
  piece : s.extract t.pos (t.pos + (shown t.kind t.text).size) = shown t.kind t.text
  fit : t.pos + (shown t.kind t.text).size ≤ s.size
  last : t.kind = 0 ↔ k + 1 = n
  next : e2 = t.pos + (shown t.kind t.text).size

theorem places (s sg : ByteArray) : ∀ (n i : Nat) (l : List Tok), i ≤ s.size → toksF s sg n i = .ok l → l.length ≤ n ∧ 1 ≤ l.length ∧ endAt l i l.length = s.size ∧ ∀ k (t : Tok), l[k]? = some t → PlaceOk s l.length (endAt l i k) (endAt l i (k + 1)) k t := by
  intro n
  induction n with
  | zero => intro i l hi h; simp [toksF] at h
  | succ n ih =>
    intro i l hi h
    have hb := behind_bd s i hi
    cases ho : oneB s sg (behind s i) with
    | none => rw [toksF_bad s sg n i ho] at h; cases h
    | some r =>
      obtain ⟨k, t, e⟩ := r
      have hs := one_shown s sg _ hb.2 k t e ho
      by_cases hk : k = 0
      · subst hk
        rw [toksF_end s sg n i t e ho] at h
        cases h
        have hend : behind s i = s.size := hs.2.2.2.1 rfl
        have hz : (shown 0 t).size = 0 := by have := hs.2.1; have := hs.2.2.1; omega
        refine ⟨by simp, by simp, ?_, ?_⟩
        · show behind s i + (shown 0 t).size = s.size
          omega
        · intro k t2 hk2
          cases k with
          | zero =>
            obtain rfl := Option.some.inj hk2
            exact ⟨rfl, hi, by show s.extract (behind s i) (behind s i + (shown 0 t).size) = _; rw [← hs.2.1]; exact hs.1, by show behind s i + (shown 0 t).size ≤ _; omega, ⟨fun _ => rfl, fun _ => rfl⟩, rfl⟩
          | succ k => simp at hk2
      · simp only [toksF, ho] at h
        rw [if_neg hk] at h
        cases hr : toksF s sg n e with
        | error x => rw [hr] at h; cases h
        | ok l2 =>
          rw [hr] at h
          cases h
          have hes : e ≤ s.size := hs.2.2.1
          obtain ⟨g1, g2, g3, g4⟩ := ih e l2 hes hr
          have hnext : behind s i + (shown k t).size = e := hs.2.1.symm
          refine ⟨by simp; omega, by simp, ?_, ?_⟩
          · rw [List.length_cons, endAt_cons]
            show endAt l2 (behind s i + (shown k t).size) l2.length = _
            rw [hnext]; exact g3
          · intro j t2 hj
            cases j with
            | zero =>
              obtain rfl := Option.some.inj hj
              exact ⟨rfl, hi, by show s.extract (behind s i) (behind s i + (shown k t).size) = _; rw [hnext]; exact hs.1, by show behind s i + (shown k t).size ≤ _; omega, ⟨fun h0 => absurd h0 hk, fun h0 => by rw [List.length_cons] at h0; omega⟩, rfl⟩
            | succ j =>
              have hj2 : l2[j]? = some t2 := by simpa using hj
              have g := g4 j t2 hj2
              rw [endAt_cons, endAt_cons]
              show PlaceOk s _ (endAt l2 (behind s i + (shown k t).size) j) (endAt l2 (behind s i + (shown k t).size) (j + 1)) _ _
              rw [hnext]
              exact ⟨g.pos, g.esz, g.piece, g.fit, ⟨fun h0 => by have := g.last.1 h0; rw [List.length_cons]; omega, fun h0 => g.last.2 (by rw [List.length_cons] at h0; omega)⟩, g.next⟩

theorem toksF_err (s sg : ByteArray) : ∀ (n i : Nat) (c : Int) (p : Nat), i ≤ s.size → toksF s sg n i = .error (c, p) → (c = 10 ∨ c = 16) ∧ p ≤ s.size := by
  intro n
  induction n with
  | zero =>
    intro i c p hi h
    have hb := behind_bd s i hi
    simp only [toksF] at h
    cases h
    exact ⟨.inr rfl, hb.2⟩
  | succ n ih =>
    intro i c p hi h
    have hb := behind_bd s i hi
    cases ho : oneB s sg (behind s i) with
    | none => rw [toksF_bad s sg n i ho] at h; cases h; exact ⟨.inl rfl, hb.2⟩
    | some r =>
      obtain ⟨k, t, e⟩ := r
      have hs := one_shown s sg _ hb.2 k t e ho
      simp only [toksF, ho] at h
      by_cases hk : k = 0
      · rw [if_pos hk] at h; cases h
      · rw [if_neg hk] at h
        cases hr : toksF s sg n e with
        | error x => rw [hr] at h; cases h; exact ih e c p hs.2.2.1 hr
        | ok l2 => rw [hr] at h; cases h
theorem toks_err (s sg : ByteArray) (c : Int) (p : Nat) (h : toks s sg = .error (c, p)) : (c = 10 ∨ c = 16) ∧ p ≤ 8192 := by
  unfold toks at h
  split at h
  · cases h; exact ⟨.inr rfl, Nat.le_refl _⟩
  · have := toksF_err s sg _ _ _ _ (Nat.zero_le _) h
    omega
theorem toks_ok (s sg : ByteArray) (l : List Tok) (h : toks s sg = .ok l) : s.size ≤ 8192 ∧ toksF s sg 2048 0 = .ok l := by
  unfold toks at h
  split at h
  · cases h
  · exact ⟨by omega, h⟩

end Go.Proofs.Ytlfpakopahmdiaa
