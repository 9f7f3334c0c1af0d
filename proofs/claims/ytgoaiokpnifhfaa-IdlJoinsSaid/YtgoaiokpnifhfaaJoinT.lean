/-
  Two texts joined by a new line: tokens.
-/
import Derived.Test.YtgoaiokpnifhfaaIdlP
namespace Go.Proofs.Ytgoaiokpnifhfaa
open Go.RowKit
set_option linter.unusedVariables false
set_option linter.unusedSimpArgs false

theorem bt_left (a b : ByteArray) (i : Nat) (h : i < a.size) : bt (a ++ b) i = bt a i := by
  rw [bt_list, bt_list, ByteArray.data_append, Array.toList_append, List.getElem?_append_left (by simpa using h)]
theorem bt_right (a b : ByteArray) (i : Nat) : bt (a ++ b) (a.size + i) = bt b i := by
  have hl : a.data.toList.length = a.size := Array.length_toList
  rw [bt_list, bt_list, ByteArray.data_append, Array.toList_append, List.getElem?_append_right (by omega)]
  rw [hl, Nat.add_sub_cancel_left]

def joinB (a b : ByteArray) : ByteArray := a ++ ⟨#[10]⟩ ++ b
theorem joinB_size (a b : ByteArray) : (joinB a b).size = a.size + 1 + b.size := by
  rw [joinB, ByteArray.size_append, ByteArray.size_append]; rfl
theorem nl_size (a : ByteArray) : (a ++ (⟨#[10]⟩ : ByteArray)).size = a.size + 1 := by rw [ByteArray.size_append]; rfl
theorem jl (a b : ByteArray) (i : Nat) (h : i < a.size) : bt (joinB a b) i = bt a i := by
  rw [joinB, bt_left _ _ _ (by rw [nl_size]; omega), bt_left _ _ _ h]
theorem jm (a b : ByteArray) : bt (joinB a b) a.size = 10 := by
  rw [joinB, bt_left _ _ _ (by rw [nl_size]; omega)]
  have := bt_right a ⟨#[10]⟩ 0
  rw [Nat.add_zero] at this
  rw [this]; rfl
theorem jr (a b : ByteArray) (i : Nat) : bt (joinB a b) (a.size + 1 + i) = bt b i := by
  rw [joinB]
  have := bt_right (a ++ (⟨#[10]⟩ : ByteArray)) b i
  rw [nl_size] at this
  exact this
theorem bytes_ext (x y : ByteArray) (hs : x.size = y.size) (h : ∀ i, i < x.size → bt x i = bt y i) : x = y := by
  cases x with | mk x => cases y with | mk y =>
  congr 1
  apply Array.ext
  · exact hs
  · intro i h1 h2
    have h3 := h i h1
    rw [← bt_in _ i h1, ← bt_in _ i h2] at h3
    exact UInt8.toNat_inj.1 (by have : ((x[i].toNat : Nat) : Int) = (y[i].toNat : Int) := h3; omega)
theorem ext_left (a b : ByteArray) (i j : Nat) (hj : j ≤ a.size) : (joinB a b).extract i j = a.extract i j := by
  have z1 := piece_size (joinB a b) i j (by rw [joinB_size]; omega)
  have z2 := piece_size a i j hj
  refine bytes_ext _ _ (by rw [z1, z2]) (fun k hk => ?_)
  rw [z1] at hk
  rw [bt_piece _ _ _ _ hk (by rw [joinB_size]; omega), bt_piece _ _ _ _ hk hj, jl _ _ _ (by omega)]
theorem ext_right (a b : ByteArray) (i j : Nat) (hj : j ≤ b.size) : (joinB a b).extract (a.size + 1 + i) (a.size + 1 + j) = b.extract i j := by
  have z1 := piece_size (joinB a b) (a.size + 1 + i) (a.size + 1 + j) (by rw [joinB_size]; omega)
  have z2 := piece_size b i j hj
  refine bytes_ext _ _ (by rw [z1, z2]; omega) (fun k hk => ?_)
  rw [z1] at hk
  rw [bt_piece _ _ _ _ hk (by rw [joinB_size]; omega), bt_piece _ _ _ _ (by omega) hj, Nat.add_assoc, jr]

/-! ### the second text, behind the first one -/
theorem span_right (a b : ByteArray) (p : Int → Bool) (i : Nat) (hi : i ≤ b.size) : spanEnd (joinB a b) p (a.size + 1 + i) = a.size + 1 + spanEnd b p i := by
  obtain ⟨h1, h2, h3, h4⟩ := spanEnd_bd b p i hi
  refine spanEnd_eq _ _ _ _ (by omega) (by rw [joinB_size]; omega) (fun x hx hx2 => ?_) ?_
  · obtain ⟨k, rfl⟩ : ∃ k, x = a.size + 1 + k := ⟨x - (a.size + 1), by omega⟩
    rw [jr]; exact h3 k (by omega) (by omega)
  · rcases h4 with h4 | h4
    · exact .inl (by rw [joinB_size, h4])
    · exact .inr (by rw [jr]; exact h4)
theorem numStart_right (a b : ByteArray) (i : Nat) : numStart (joinB a b) (a.size + 1 + i) = numStart b i := by
  rw [numStart, numStart, jr, Nat.add_assoc, jr]
theorem one_right (a b sg : ByteArray) (i : Nat) (hi : i ≤ b.size) : oneB (joinB a b) sg (a.size + 1 + i) = (oneB b sg i).map fun r => (r.1, r.2.1, a.size + 1 + r.2.2) := by
  by_cases h0 : b.size ≤ i
  · rw [oneB, if_pos (by rw [joinB_size]; omega), oneB, if_pos h0]; rfl
  · have e1 : a.size + 1 + i + 1 = a.size + 1 + (i + 1) := by omega
    have hn := span_right a b isNamed i hi
    have hd := span_right a b isDigit (i + 1) (by omega)
    have hq := span_right a b inQuote (i + 1) (by omega)
    have bn := (spanEnd_bd b isNamed i hi).2.1
    have bd := (spanEnd_bd b isDigit (i + 1) (by omega)).2.1
    have bq := (spanEnd_bd b inQuote (i + 1) (by omega)).2.1
    rw [oneB, if_neg (by rw [joinB_size]; omega), oneB, if_neg h0, jr, numStart_right, e1, hn, hd, hq, ext_right _ _ _ _ bn, ext_right _ _ _ _ bd, ext_right _ _ _ _ bq, ext_right _ _ _ _ (by omega), jr, jr]
    generalize spanEnd b isNamed i = xn
    generalize spanEnd b isDigit (i + 1) = xd
    generalize spanEnd b inQuote (i + 1) = xq
    split
    · rfl
    · split
      · split <;> rfl
      · split
        · split <;> rfl
        · split <;> rfl
theorem remark_right (a b : ByteArray) (i : Nat) : isRemark (joinB a b) (a.size + 1 + i) = isRemark b i := by
  rw [isRemark, isRemark, jr, Nat.add_assoc, jr]
theorem behind_right (a b : ByteArray) : ∀ (n i : Nat), b.size - i ≤ n → i ≤ b.size → behind (joinB a b) (a.size + 1 + i) = a.size + 1 + behind b i := by
  intro n
  induction n with
  | zero =>
    intro i hn hi
    rw [behind_out _ _ (by rw [joinB_size]; omega), behind_out _ _ (by omega)]
  | succ n ih =>
    intro i hn hi
    by_cases h0 : i < b.size
    · by_cases hb : isBlank (bt b i) = true
      · rw [behind_blank b i h0 hb, behind_blank (joinB a b) _ (by rw [joinB_size]; omega) (by rw [jr]; exact hb), Nat.add_assoc (a.size + 1)]
        exact ih (i + 1) (by omega) (by omega)
      · by_cases hr : isRemark b i = true
        · have hd := behindN_dec b i hr
          unfold remarkEnd at hd
          rw [behind_remark b i hr, behind_remark (joinB a b) _ (by rw [remark_right]; exact hr)]
          rw [remarkEnd, span_right a b notLine i hi]
          exact ih _ (by have := hd.2.1; omega) hd.2.2
        · rw [behind_stop b i (by simpa using hb) (by simpa using hr), behind_stop (joinB a b) _ (by rw [jr]; simpa using hb) (by rw [remark_right]; simpa using hr)]
    · rw [behind_out _ _ (by rw [joinB_size]; omega), behind_out _ _ h0]

def shT (d : Nat) (t : Tok) : Tok := ⟨t.kind, t.text, d + t.pos⟩
theorem toks_right (a b sg : ByteArray) : ∀ (n i : Nat), i ≤ b.size → toksF (joinB a b) sg n (a.size + 1 + i) = match toksF b sg n i with | .error (c, p) => .error (c, a.size + 1 + p) | .ok l => .ok (l.map (shT (a.size + 1))) := by
  intro n
  induction n with
  | zero => intro i hi; simp only [toksF]; rw [behind_right a b _ i (Nat.le_refl _) hi]
  | succ n ih =>
    intro i hi
    have hb := behind_bd b i hi
    simp only [toksF]
    rw [behind_right a b _ i (Nat.le_refl _) hi, one_right a b sg _ hb.2]
    cases ho : oneB b sg (behind b i) with
    | none => rfl
    | some r =>
      obtain ⟨k, t, e⟩ := r
      have hbd := oneB_bd b sg _ hb.2 k t e ho
      simp only [Option.map_some]
      by_cases hk : k = 0
      · rw [if_pos hk, if_pos hk]; rfl
      · rw [if_neg hk, if_neg hk, ih e hbd.2.2]
        cases toksF b sg n e with
        | error x => rfl
        | ok l => rfl

/-! ### the first text -/
theorem span_left (a b : ByteArray) (p : Int → Bool) (hp : p 10 = false) (i : Nat) (hi : i ≤ a.size) : spanEnd (joinB a b) p i = spanEnd a p i := by
  obtain ⟨h1, h2, h3, h4⟩ := spanEnd_bd a p i hi
  refine spanEnd_eq _ _ _ _ h1 (by rw [joinB_size]; omega) (fun x hx hx2 => by rw [jl _ _ _ (by omega)]; exact h3 x hx hx2) (.inr ?_)
  by_cases e : spanEnd a p i = a.size
  · rw [e, jm]; exact hp
  · rw [jl _ _ _ (by omega)]
    rcases h4 with h4 | h4
    · exact absurd h4 e
    · exact h4
theorem at_left (a b : ByteArray) (f : Int → Bool) (hf : f 10 = f 0) (i : Nat) (hi : i ≤ a.size) : f (bt (joinB a b) i) = f (bt a i) := by
  by_cases e : i = a.size
  · rw [e, jm, bt_out a a.size (by omega)]; exact hf
  · rw [jl _ _ _ (by omega)]
theorem numStart_left (a b : ByteArray) (i : Nat) (hi : i < a.size) : numStart (joinB a b) i = numStart a i := by
  rw [numStart, numStart, jl _ _ _ hi, at_left a b isDigit rfl (i + 1) (by omega)]
theorem one_left (a b sg : ByteArray) (i : Nat) (hi : i < a.size) : oneB (joinB a b) sg i = oneB a sg i := by
  have bn := (spanEnd_bd a isNamed i (by omega)).2.1
  have bd := (spanEnd_bd a isDigit (i + 1) (by omega)).2.1
  have bq := (spanEnd_bd a inQuote (i + 1) (by omega)).2.1
  have hq : (bt (joinB a b) (spanEnd a inQuote (i + 1)) = 34) = (bt a (spanEnd a inQuote (i + 1)) = 34) := by
    have := at_left a b (fun c => decide (c = 34)) rfl _ bq
    simpa using this
  have en := span_left a b isNamed rfl i (by omega)
  have ed := span_left a b isDigit rfl (i + 1) (by omega)
  have eq := span_left a b inQuote rfl (i + 1) (by omega)
  rw [oneB, if_neg (show ¬ (joinB a b).size ≤ i by rw [joinB_size]; omega), oneB, if_neg (show ¬ a.size ≤ i by omega), jl _ _ _ hi, numStart_left _ _ _ hi, en, ed, eq, ext_left _ _ _ _ bn, ext_left _ _ _ _ bd, ext_left _ _ _ _ bq, ext_left _ _ _ _ (show i + 1 ≤ a.size by omega), at_left a b isLetter rfl _ bd]
  simp only [hq]
theorem remark_left (a b : ByteArray) (i : Nat) (hi : i < a.size) : isRemark (joinB a b) i = isRemark a i := by
  have h2 := at_left a b (fun c => decide (c = 47)) rfl (i + 1) (by omega)
  rw [isRemark, isRemark, jl _ _ _ hi]
  exact congrArg _ h2
theorem behind_left (a b : ByteArray) : ∀ (n i : Nat), a.size - i ≤ n → i ≤ a.size → (behind a i < a.size → behind (joinB a b) i = behind a i) ∧ (behind a i = a.size → behind (joinB a b) i = behind (joinB a b) a.size) := by
  intro n
  induction n with
  | zero =>
    intro i hn hi
    have e : i = a.size := by omega
    subst e
    rw [behind_out a _ (by omega)]
    exact ⟨fun h => by omega, fun _ => rfl⟩
  | succ n ih =>
    intro i hn hi
    by_cases h0 : i < a.size
    · by_cases hb : isBlank (bt a i) = true
      · rw [behind_blank a i h0 hb, behind_blank (joinB a b) i (by rw [joinB_size]; omega) (by rw [jl _ _ _ h0]; exact hb)]
        exact ih (i + 1) (by omega) (by omega)
      · by_cases hr : isRemark a i = true
        · have hd := behindN_dec a i hr
          rw [behind_remark a i hr, behind_remark (joinB a b) i (by rw [remark_left _ _ _ h0]; exact hr)]
          have e : remarkEnd (joinB a b) i = remarkEnd a i := span_left a b notLine rfl i (by omega)
          rw [e]
          exact ih _ (by have := hd.2.1; omega) hd.2.2
        · rw [behind_stop a i (by simpa using hb) (by simpa using hr), behind_stop (joinB a b) i (by rw [jl _ _ _ h0]; simpa using hb) (by rw [remark_left _ _ _ h0]; simpa using hr)]
          exact ⟨fun _ => rfl, fun h => by omega⟩
    · have e : i = a.size := by omega
      subst e
      rw [behind_out a _ (by omega)]
      exact ⟨fun h => by omega, fun _ => rfl⟩
theorem toksF_same {s sg : ByteArray} {n i j : Nat} (h : behind s i = behind s j) : toksF s sg n i = toksF s sg n j := by
  cases n with
  | zero => simp only [toksF]; rw [h]
  | succ n => simp only [toksF]; rw [h]
theorem toks_left (a b sg : ByteArray) : ∀ (n i : Nat) (la : List Tok), i ≤ a.size → toksF a sg n i = .ok la → 1 ≤ la.length ∧ ∀ m, (la.length ≤ m + 1 → toksF (joinB a b) sg m i = pre la.dropLast (toksF (joinB a b) sg (m + 1 - la.length) a.size)) ∧ (m + 1 < la.length → ∃ p, toksF (joinB a b) sg m i = .error (16, p)) := by
  intro n
  induction n with
  | zero => intro i la hi h; simp [toksF] at h
  | succ n ih =>
    intro i la hi h
    have hb := behind_bd a i hi
    have hbl := behind_left a b _ i (Nat.le_refl _) hi
    simp only [toksF] at h
    cases ho : oneB a sg (behind a i) with
    | none => rw [ho] at h; cases h
    | some r =>
      obtain ⟨k, t, e⟩ := r
      have hbd := oneB_bd a sg _ hb.2 k t e ho
      rw [ho] at h
      simp only at h
      by_cases hk : k = 0
      · rw [if_pos hk] at h
        cases h
        refine ⟨by simp, fun m => ⟨fun _ => ?_, fun h => by simp at h⟩⟩
        rw [toksF_same (hbl.2 (hbd.1 hk))]
        simp only [List.length_cons, List.length_nil, List.dropLast]
        rw [show m + 1 - (0 + 1) = m by omega]
        cases toksF (joinB a b) sg m a.size <;> rfl
      · rw [if_neg hk] at h
        cases hl : toksF a sg n e with
        | error x => rw [hl] at h; cases h
        | ok l' =>
          rw [hl] at h
          cases h
          obtain ⟨h1, hi2⟩ := ih e l' hbd.2.2 hl
          have hlt := (hbd.2.1 hk).1
          have hbe := hbl.1 hlt
          refine ⟨by simp, fun m => ?_⟩
          cases m with
          | zero =>
            refine ⟨fun h => by rw [List.length_cons] at h; omega, fun _ => ⟨_, toksF_many _ _ _⟩⟩
          | succ m =>
            obtain ⟨g1, g2⟩ := hi2 m
            have hst : toksF (joinB a b) sg (m + 1) i = match toksF (joinB a b) sg m e with | .error x => .error x | .ok l => .ok (⟨k, t, behind a i⟩ :: l) := by
              simp only [toksF]
              rw [hbe, one_left _ _ _ _ hlt, ho]
              simp only
              rw [if_neg hk]
              cases toksF (joinB a b) sg m e <;> rfl
            refine ⟨fun h => ?_, fun h => ?_⟩
            · rw [hst, g1 (by rw [List.length_cons] at h; omega)]
              have ed : (⟨k, t, behind a i⟩ :: l').dropLast = ⟨k, t, behind a i⟩ :: l'.dropLast := by
                cases l' with
                | nil => simp at h1
                | cons y ys => rfl
              rw [ed, show m + 1 + 1 - (⟨k, t, behind a i⟩ :: l' : List Tok).length = m + 1 - l'.length by rw [List.length_cons]; omega]
              cases toksF (joinB a b) sg (m + 1 - l'.length) a.size <;> rfl
            · obtain ⟨p, hp⟩ := g2 (by rw [List.length_cons] at h; omega)
              exact ⟨p, by rw [hst, hp]⟩
theorem toksF_fuel (s sg : ByteArray) : ∀ (n i : Nat) (l : List Tok), toksF s sg n i = .ok l → ∀ m, (l.length ≤ m → toksF s sg m i = .ok l) ∧ (m < l.length → ∃ p, toksF s sg m i = .error (16, p)) := by
  intro n
  induction n with
  | zero => intro i l h; simp [toksF] at h
  | succ n ih =>
    intro i l h m
    cases ho : oneB s sg (behind s i) with
    | none => simp only [toksF, ho] at h; cases h
    | some r =>
      obtain ⟨k, t, e⟩ := r
      by_cases hk : k = 0
      · simp only [toksF, ho] at h
        rw [if_pos hk] at h
        cases h
        cases m with
        | zero => exact ⟨fun h => by simp at h, fun _ => ⟨_, toksF_many _ _ _⟩⟩
        | succ m => exact ⟨fun _ => by simp only [toksF, ho]; rw [if_pos hk], fun h => by simp at h⟩
      · simp only [toksF, ho] at h
        rw [if_neg hk] at h
        cases hl : toksF s sg n e with
        | error x => rw [hl] at h; cases h
        | ok l' =>
          rw [hl] at h
          cases h
          cases m with
          | zero => exact ⟨fun h => by simp at h, fun _ => ⟨_, toksF_many _ _ _⟩⟩
          | succ m =>
            obtain ⟨g1, g2⟩ := ih e l' hl m
            refine ⟨fun h => ?_, fun h => ?_⟩
            · simp only [toksF, ho]; rw [if_neg hk, g1 (by simpa using h)]
            · obtain ⟨p, hp⟩ := g2 (by simpa using h)
              exact ⟨p, by simp only [toksF, ho]; rw [if_neg hk, hp]⟩
/-- the joined text's tokens -/
theorem toks_join (a b sg : ByteArray) (la lb : List Tok) (ha : toks a sg = .ok la) (hb : toks b sg = .ok lb) (hs : a.size + b.size ≤ 8191) :
    (∃ p, toks (joinB a b) sg = .error (16, p)) ∨ toks (joinB a b) sg = .ok (la.dropLast ++ lb.map (shT (a.size + 1))) := by
  have hja : toksF a sg 2048 0 = .ok la := by
    unfold toks at ha
    split at ha
    · cases ha
    · exact ha
  have hjb : toksF b sg 2048 0 = .ok lb := by
    unfold toks at hb
    split at hb
    · cases hb
    · exact hb
  have hT : toks (joinB a b) sg = toksF (joinB a b) sg 2048 0 := by rw [toks, if_neg (by rw [joinB_size]; omega)]
  rw [hT]
  obtain ⟨h1, h2⟩ := toks_left a b sg 2048 0 la (by omega) hja
  obtain ⟨g1, g2⟩ := h2 2048
  by_cases hl : la.length ≤ 2048 + 1
  · rw [g1 hl]
    have hbe : behind (joinB a b) a.size = behind (joinB a b) (a.size + 1 + 0) := behind_blank _ _ (by rw [joinB_size]; omega) (by rw [jm]; rfl)
    rw [toksF_same hbe, toks_right a b sg _ 0 (by omega)]
    obtain ⟨f1, f2⟩ := toksF_fuel b sg _ _ _ hjb (2048 + 1 - la.length)
    by_cases hm : lb.length ≤ 2048 + 1 - la.length
    · rw [f1 hm]; exact .inr rfl
    · obtain ⟨p, hp⟩ := f2 (by omega)
      rw [hp]; exact .inl ⟨_, rfl⟩
  · exact .inl (g2 (by omega))

end Go.Proofs.Ytgoaiokpnifhfaa
