/-
  Layer 3: blanks and remarks put between tokens change nothing but their places.
-/
import Derived.Test.YtlfpakopahmdiaaPlaces
namespace Go.Proofs.Ytlfpakopahmdiaa
open Go.RowKit
set_option linter.unusedVariables false
set_option linter.unusedSimpArgs false

def fillOf : Nat → ByteArray
  | 0 => ⟨#[32]⟩ | 1 => ⟨#[10]⟩ | 2 => ⟨#[9, 13, 32]⟩ | 3 => ⟨#[47, 47, 32, 34, 120, 32, 123, 10]⟩ | _ => ⟨#[32, 47, 47, 10, 47, 47, 10]⟩
/-- a byte with which a fill begins -/
def gapB (c : Int) : Prop := c = 32 ∨ c = 10 ∨ c = 9 ∨ c = 47
theorem fill_first (g : Nat) : gapB (bt (fillOf g) 0) ∧ 1 ≤ (fillOf g).size ∧ (fillOf g).size ≤ 8 := by
  match g with
  | 0 => exact ⟨.inl rfl, by decide, by decide⟩
  | 1 => exact ⟨.inr (.inl rfl), by decide, by decide⟩
  | 2 => exact ⟨.inr (.inr (.inl rfl)), by decide, by decide⟩
  | 3 => exact ⟨.inr (.inr (.inr rfl)), by decide, by decide⟩
  | _ + 4 => exact ⟨.inl rfl, by show 1 ≤ 7; decide, by show 7 ≤ 8; decide⟩
theorem gap_kinds (c : Int) (h : gapB c) : isNamed c = false ∧ isDigit c = false ∧ isLetter c = false := by
  rcases h with rfl | rfl | rfl | rfl <;> exact ⟨rfl, rfl, rfl⟩

/-- the same bytes -/
def SameB (T s : ByteArray) (q i n : Nat) : Prop := ∀ x, x < n → bt T (q + x) = bt s (i + x)
theorem sameB_of (T s : ByteArray) (q i n : Nat) (hT : q + n ≤ T.size) (hs : i + n ≤ s.size) (h : T.extract q (q + n) = s.extract i (i + n)) : SameB T s q i n := by
  intro x hx
  rw [← bt_piece T q (q + n) x (by omega) hT, ← bt_piece s i (i + n) x (by omega) hs, h]

theorem one_again (T s sg : ByteArray) (q i : Nat) (hsg : hasSign sg 47 = false) (hbl : ∀ j, j < sg.size → isBlank (bt sg j) = false) (hi : i ≤ s.size) (k : Int) (t : ByteArray) (e : Nat) (h : oneB s sg i = some (k, t, e)) (hk : k ≠ 0)
    (hT : q + (e - i) ≤ T.size) (heq : T.extract q (q + (e - i)) = s.extract i e) (hgap : gapB (bt T (q + (e - i)))) :
    oneB T sg q = some (k, t, q + (e - i)) ∧ isBlank (bt T q) = false ∧ isRemark T q = false := by
  have hsh := one_shown s sg i hi k t e h
  obtain ⟨hilt, hie⟩ := hsh.2.2.2.2 hk
  have hes := hsh.2.2.1
  have ee : i + (e - i) = e := by omega
  have hsb : SameB T s q i (e - i) := sameB_of T s q i (e - i) hT (by omega) (by rw [ee]; exact heq)
  have hb0 : bt T q = bt s i := by have := hsb 0 (by omega); simpa using this
  have hqT : q < T.size := by omega
  obtain ⟨gn, gd, gl⟩ := gap_kinds _ hgap
  have fin : ∀ c : Int, bt s i = c → isBlank c = false → c ≠ 47 → isBlank (bt T q) = false ∧ isRemark T q = false := by
    intro c hc h1 h2
    refine ⟨by rw [hb0, hc]; exact h1, ?_⟩
    rw [isRemark, hb0, hc, decide_eq_false h2]; rfl
  unfold oneB at h
  split at h
  · cases h; exact absurd rfl hk
  split at h
  · rename_i hl
    have sp := spanEnd_bd s isNamed i (by omega)
    cases h
    have hx : spanEnd T isNamed q = q + (spanEnd s isNamed i - i) := by
      refine spanEnd_eq T isNamed q _ (by omega) hT (fun x h1 h2 => ?_) (.inr gn)
      have := hsb (x - q) (by omega)
      rw [show q + (x - q) = x by omega] at this
      rw [this]; exact sp.2.2.1 _ (by omega) (by omega)
    refine ⟨?_, fin (bt s i) rfl ?_ ?_⟩
    · rw [oneB_name T sg q hqT (by rw [hb0]; exact hl), hx, heq]
    · generalize bt s i = c at hl ⊢
      simp only [isLetter, isBlank, Bool.or_eq_true, Bool.and_eq_true, decide_eq_true_eq, Bool.or_eq_false_iff, decide_eq_false_iff_not] at hl ⊢
      omega
    · intro h47; rw [h47] at hl; simp [isLetter] at hl
  split at h
  · rename_i hnl hn
    have sp := spanEnd_bd s isDigit (i + 1) (by omega)
    split at h
    · rename_i hg
      cases h
      have hx : spanEnd T isDigit (q + 1) = q + (spanEnd s isDigit (i + 1) - i) := by
        refine spanEnd_eq T isDigit (q + 1) _ (by omega) hT (fun x h1 h2 => ?_) (.inr gd)
        have := hsb (x - q) (by omega)
        rw [show q + (x - q) = x by omega] at this
        rw [this]; exact sp.2.2.1 _ (by omega) (by omega)
      have hnl' : isLetter (bt T q) = false := by rw [hb0]; simpa using hnl
      have hn' : numStart T q = true := by
        rw [numStart, hb0]
        rw [numStart, Bool.or_eq_true, Bool.and_eq_true, decide_eq_true_eq] at hn
        rcases hn with hn | ⟨hn1, hn2⟩
        · rw [hn]; rfl
        · have h2 : i + 1 < spanEnd s isDigit (i + 1) := by
            rcases sp.2.2.2 with h3 | h3
            · have : i + 1 < s.size := by
                by_cases hz : i + 1 < s.size
                · exact hz
                · rw [bt_out s _ hz] at hn2; simp [isDigit] at hn2
              omega
            · by_cases e1 : spanEnd s isDigit (i + 1) = i + 1
              · rw [e1, hn2] at h3; cases h3
              · omega
          have := hsb 1 (by omega)
          rw [this, hn2, hn1]; rfl
      refine ⟨?_, fin (bt s i) rfl ?_ ?_⟩
      · rw [oneB_num T sg q hqT hnl' hn', hx, heq, if_pos ⟨hg.1, gl⟩]
      · rw [numStart, Bool.or_eq_true, Bool.and_eq_true, decide_eq_true_eq] at hn
        rcases hn with hn | ⟨hn, _⟩
        · generalize bt s i = c at hn ⊢
          simp only [isDigit, isBlank, Bool.or_eq_true, Bool.and_eq_true, decide_eq_true_eq, Bool.or_eq_false_iff, decide_eq_false_iff_not] at hn ⊢
          omega
        · rw [hn]; rfl
      · intro h47; rw [numStart, h47] at hn; simp [isDigit] at hn
    · cases h
  split at h
  · rename_i hnl hnn h34
    have sp := spanEnd_bd s inQuote (i + 1) (by omega)
    split at h
    · rename_i h5
      have h6 : spanEnd s inQuote (i + 1) < s.size := by
        by_cases hz : spanEnd s inQuote (i + 1) < s.size
        · exact hz
        · rw [bt_out s _ hz] at h5; omega
      cases h
      have hxe := hsb (spanEnd s inQuote (i + 1) - i) (by omega)
      rw [show i + (spanEnd s inQuote (i + 1) - i) = spanEnd s inQuote (i + 1) by omega, h5.1] at hxe
      have hx : spanEnd T inQuote (q + 1) = q + (spanEnd s inQuote (i + 1) - i) := by
        refine spanEnd_eq T inQuote (q + 1) _ (by omega) (by omega) (fun x h1 h2 => ?_) (.inr (by rw [hxe]; rfl))
        have := hsb (x - q) (by omega)
        rw [show q + (x - q) = x by omega] at this
        rw [this]; exact sp.2.2.1 _ (by omega) (by omega)
      have htx : T.extract (q + 1) (q + (spanEnd s inQuote (i + 1) - i)) = s.extract (i + 1) (spanEnd s inQuote (i + 1)) := by
        apply ByteArray.ext; apply Array.ext'
        apply List.ext_getElem?
        intro j
        have a1 : ∀ (u : ByteArray) (a b : Nat), (u.extract a b).data.toList[j]? = if j < b - a then u.data.toList[a + j]? else none := by
          intro u a b
          rw [Lib.extract_data]
          by_cases hj : j < b - a
          · rw [if_pos hj, List.getElem?_take, if_pos hj, List.getElem?_drop]
          · rw [if_neg hj, List.getElem?_take, if_neg hj]
        rw [a1, a1]
        by_cases hj : j < spanEnd s inQuote (i + 1) - (i + 1)
        · rw [if_pos (by omega), if_pos hj]
          have hq1 : q + 1 + j < T.size := by omega
          have hs1 : i + 1 + j < s.size := by omega
          have := hsb (1 + j) (by omega)
          rw [show q + (1 + j) = q + 1 + j by omega, show i + (1 + j) = i + 1 + j by omega, ← bt_in T _ hq1, ← bt_in s _ hs1] at this
          have e3 : T[q + 1 + j] = s[i + 1 + j] := UInt8.toNat_inj.1 (by omega)
          have l1 : q + 1 + j < T.data.toList.length := by simpa using hq1
          have l2 : i + 1 + j < s.data.toList.length := by simpa using hs1
          rw [List.getElem?_eq_getElem l1, List.getElem?_eq_getElem l2]
          exact congrArg some e3
        · rw [if_neg (by omega), if_neg hj]
      refine ⟨?_, fin 34 h34 rfl (by decide)⟩
      rw [oneB_quote T sg q hqT (by rw [hb0]; exact h34), hx, hxe, htx, if_pos ⟨rfl, h5.2⟩]
      congr 3
      omega
    · cases h
  split at h
  · rename_i hnl hnn hn34 hsg2
    cases h
    have e1 : i + 1 - i = 1 := by omega
    rw [e1] at hgap heq ⊢
    obtain ⟨_, gd, _⟩ := gap_kinds _ hgap
    have hnl' : isLetter (bt T q) = false := by rw [hb0]; simpa using hnl
    have hdn : isDigit (bt s i) = false := by
      have : numStart s i = false := by simpa using hnn
      rw [numStart, Bool.or_eq_false_iff] at this; exact this.1
    have hnn' : numStart T q = false := by rw [numStart, hb0, hdn, gd]; simp
    refine ⟨?_, ?_, ?_⟩
    · rw [oneB_sign T sg q hqT hnl' hnn' (by rw [hb0]; exact hn34), hb0, if_pos hsg2, heq]
    · rw [hb0]
      rw [hasSign, decide_eq_true_eq] at hsg2
      obtain ⟨j, hj, hjc⟩ := hsg2
      rw [← hjc]; exact hbl j hj
    · rw [isRemark]
      have : bt T q ≠ 47 := by rw [hb0]; intro h47; rw [h47, hsg] at hsg2; cases hsg2
      rw [decide_eq_false this]; rfl
  · cases h

theorem behind_fill (T : ByteArray) (p g : Nat) (hT : p + (fillOf g).size ≤ T.size) (hb : ∀ x, x < (fillOf g).size → bt T (p + x) = bt (fillOf g) x)
    (h1 : isBlank (bt T (p + (fillOf g).size)) = false) (h2 : isRemark T (p + (fillOf g).size) = false) : behind T p = p + (fillOf g).size := by
  have blank1 : ∀ x, x < (fillOf g).size → isBlank (bt (fillOf g) x) = true → behind T (p + x) = behind T (p + x + 1) := fun x hx hbx => behind_blank T (p + x) (by omega) (by rw [hb x hx]; exact hbx)
  have stop := behind_stop T _ h1 h2
  have rem : ∀ x y, x < y → y < (fillOf g).size → bt (fillOf g) x = 47 → bt (fillOf g) (x + 1) = 47 → (∀ z, x ≤ z → z < y → bt (fillOf g) z ≠ 10) → bt (fillOf g) y = 10 → behind T (p + x) = behind T (p + y) := by
    intro x y hxy hy e1 e2 h10 hy10
    have hx1 : x + 1 < (fillOf g).size := by
      by_cases hz : x + 1 < (fillOf g).size
      · exact hz
      · rw [bt_out _ _ hz] at e2; omega
    have hr : isRemark T (p + x) = true := by
      rw [isRemark, hb x (by omega), e1, show p + x + 1 = p + (x + 1) by omega, hb (x + 1) hx1, e2]; rfl
    have he : remarkEnd T (p + x) = p + y := by
      refine spanEnd_eq T notLine (p + x) (p + y) (by omega) (by omega) (fun z hz1 hz2 => ?_) (.inr (by rw [hb y hy, hy10]; rfl))
      have := hb (z - p) (by omega)
      rw [show p + (z - p) = z by omega] at this
      have h3 := h10 (z - p) (by omega) (by omega)
      rw [this, notLine, decide_eq_false h3]; rfl
    rw [behind_remark T _ hr, he]
  match g, hT, hb, h1, h2, blank1, stop, rem with
  | 0, _, _, _, _, b, st, _ =>
    have := b 0 (by decide) rfl
    exact this.trans st
  | 1, _, _, _, _, b, st, _ =>
    have := b 0 (by decide) rfl
    exact this.trans st
  | 2, _, _, _, _, b, st, _ =>
    have a0 := b 0 (by decide) rfl
    have a1 := b 1 (by decide) rfl
    have a2 := b 2 (by decide) rfl
    exact ((a0.trans a1).trans a2).trans st
  | 3, _, _, _, _, b, st, r =>
    have a0 := r 0 7 (by decide) (by decide) rfl rfl (fun z _ hz => by
      have : z = 0 ∨ z = 1 ∨ z = 2 ∨ z = 3 ∨ z = 4 ∨ z = 5 ∨ z = 6 := by omega
      rcases this with rfl | rfl | rfl | rfl | rfl | rfl | rfl <;> decide) rfl
    have a1 := b 7 (by decide) rfl
    exact (a0.trans a1).trans st
  | n + 4, _, _, _, _, b, st, r =>
    have z7 : (fillOf (n + 4)).size = 7 := rfl
    have a0 := b 0 (by rw [z7]; decide) rfl
    have a1 := r 1 3 (by decide) (by rw [z7]; decide) rfl rfl (fun z h0 hz => by
      have : z = 1 ∨ z = 2 := by omega
      rcases this with rfl | rfl <;> (show bt (⟨#[32, 47, 47, 10, 47, 47, 10]⟩ : ByteArray) _ ≠ 10; decide)) rfl
    have a2 := b 3 (by rw [z7]; decide) rfl
    have a3 := r 4 6 (by decide) (by rw [z7]; decide) rfl rfl (fun z h0 hz => by
      have : z = 4 ∨ z = 5 := by omega
      rcases this with rfl | rfl <;> (show bt (⟨#[32, 47, 47, 10, 47, 47, 10]⟩ : ByteArray) _ ≠ 10; decide)) rfl
    have a4 := b 6 (by rw [z7]; decide) rfl
    exact ((((a0.trans a1).trans a2).trans a3).trans a4).trans st

/-- the twin of a text: its tokens, each behind a fill -/
def twinOf (gp : Nat → Nat) : List Tok → Nat → ByteArray
  | [], _ => ByteArray.empty
  | t :: l, j => fillOf (gp j) ++ (shown t.kind t.text ++ twinOf gp l (j + 1))
def kt (t : Tok) : Int × ByteArray := (t.kind, t.text)

theorem bt_l (a b : ByteArray) (i : Nat) (h : i < a.size) : bt (a ++ b) i = bt a i := by
  rw [bt_list, bt_list]
  have e : (a ++ b).data.toList = a.data.toList ++ b.data.toList := by rw [ByteArray.data_append, Array.toList_append]
  have h2 : i < a.data.toList.length := by simpa using h
  rw [e, List.getElem?_append_left h2]
theorem bt_r (a b : ByteArray) (i : Nat) : bt (a ++ b) (a.size + i) = bt b i := by
  rw [bt_list, bt_list]
  have e : (a ++ b).data.toList = a.data.toList ++ b.data.toList := by rw [ByteArray.data_append, Array.toList_append]
  have h3 : a.data.toList.length = a.size := Array.length_toList
  rw [e, List.getElem?_append_right (by omega), h3, Nat.add_sub_cancel_left]
theorem ext_mid (a b c : ByteArray) : (a ++ (b ++ c)).extract a.size (a.size + b.size) = b := by
  apply ByteArray.ext; apply Array.ext'
  rw [Lib.extract_data]
  have e : (a ++ (b ++ c)).data.toList = a.data.toList ++ (b.data.toList ++ c.data.toList) := by rw [ByteArray.data_append, Array.toList_append, ByteArray.data_append, Array.toList_append]
  have h3 : a.data.toList.length = a.size := Array.length_toList
  have h4 : b.data.toList.length = b.size := Array.length_toList
  rw [e, Nat.add_sub_cancel_left, ← h3, List.drop_left, ← h4, List.take_left]

theorem again (s sg : ByteArray) (gp : Nat → Nat) (hsg : hasSign sg 47 = false) (hbl : ∀ j, j < sg.size → isBlank (bt sg j) = false) : ∀ (n i : Nat) (l : List Tok), i ≤ s.size → toksF s sg n i = .ok l →
    ∀ (A : ByteArray) (j m : Nat), l.length ≤ m → ∃ l', toksF (A ++ twinOf gp l j) sg m A.size = .ok l' ∧ l'.map kt = l.map kt := by
  intro n
  induction n with
  | zero => intro i l hi h; simp [toksF] at h
  | succ n ih =>
    intro i l hi h A j m hm
    have hb := behind_bd s i hi
    cases ho : oneB s sg (behind s i) with
    | none => rw [toksF_bad s sg n i ho] at h; cases h
    | some r =>
      obtain ⟨k, t, e⟩ := r
      have hs := one_shown s sg _ hb.2 k t e ho
      have hes := hs.2.2.1
      obtain ⟨l2, hl, hk0⟩ : ∃ l2, l = ⟨k, t, behind s i⟩ :: l2 ∧ ((k = 0 ∧ l2 = []) ∨ (k ≠ 0 ∧ toksF s sg n e = .ok l2)) := by
        by_cases hk : k = 0
        · subst hk
          rw [toksF_end s sg n i t e ho] at h
          cases h
          exact ⟨[], rfl, .inl ⟨rfl, rfl⟩⟩
        · simp only [toksF, ho] at h
          rw [if_neg hk] at h
          cases hr : toksF s sg n e with
          | error x => rw [hr] at h; cases h
          | ok l2 => rw [hr] at h; cases h; exact ⟨l2, rfl, .inr ⟨hk, rfl⟩⟩
      subst hl
      obtain ⟨m, rfl⟩ : ∃ m', m = m' + 1 := ⟨m - 1, by simp only [List.length_cons] at hm; omega⟩
      simp only [List.length_cons] at hm
      have hF := fill_first (gp j)
      obtain ⟨F, hFd⟩ : ∃ F, F = fillOf (gp j) := ⟨_, rfl⟩
      obtain ⟨S, hSd⟩ : ∃ S, S = shown k t := ⟨_, rfl⟩
      obtain ⟨Z, hZ⟩ : ∃ Z, Z = twinOf gp l2 (j + 1) := ⟨_, rfl⟩
      have hT : A ++ twinOf gp (⟨k, t, behind s i⟩ :: l2) j = A ++ (F ++ (S ++ Z)) := by rw [hFd, hSd, hZ]; rfl
      rw [hT]
      obtain ⟨T, hTd⟩ : ∃ T, T = A ++ (F ++ (S ++ Z)) := ⟨_, rfl⟩
      rw [← hTd]
      have hTz : T.size = A.size + (F.size + (S.size + Z.size)) := by rw [hTd, ByteArray.size_append, ByteArray.size_append, ByteArray.size_append]
      have hTas : T = (A ++ F) ++ (S ++ Z) := by rw [hTd, ByteArray.append_assoc]
      have hTas2 : T = (A ++ F ++ S) ++ Z := by rw [hTas, ← ByteArray.append_assoc]
      have hAF : (A ++ F).size = A.size + F.size := ByteArray.size_append
      have hAFS : (A ++ F ++ S).size = A.size + F.size + S.size := by rw [ByteArray.size_append, hAF]
      have hbF : ∀ x, x < (fillOf (gp j)).size → bt T (A.size + x) = bt (fillOf (gp j)) x := by
        intro x hx
        rw [hTd, bt_r, hFd, bt_l _ _ _ hx]
      have hSe : S.size = e - behind s i := by rw [hSd]; have := hs.2.1; omega
      rcases hk0 with ⟨rfl, rfl⟩ | ⟨hk, hr⟩
      · -- the end
        have hS0 : S.size = 0 := by have := hs.2.2.2.1 rfl; have := hs.2.1; rw [hSd]; omega
        have hZ0 : Z.size = 0 := by rw [hZ]; rfl
        have hq : A.size + (fillOf (gp j)).size = T.size := by rw [← hFd]; omega
        have hbt : bt T T.size = 0 := bt_out _ _ (by omega)
        have hbf := behind_fill T A.size (gp j) (by omega) hbF (by rw [hq, hbt]; rfl) (by rw [hq, isRemark, hbt]; rfl)
        rw [hq] at hbf
        have ht0 : t = ⟨#[]⟩ := by
          have h1 := oneB_end s sg (behind s i) (hs.2.2.2.1 rfl)
          rw [h1] at ho
          cases ho; rfl
        refine ⟨_, toksF_end T sg m A.size ⟨#[]⟩ T.size (by rw [hbf]; exact oneB_end T sg _ rfl), ?_⟩
        rw [ht0]; rfl
      · have hlen2 : l2.length ≤ m := by omega
        have hne : 1 ≤ l2.length := by
          cases l2 with
          | nil => exact absurd (places s sg n e [] hes hr).2.1 (by simp)
          | cons a b => simp
        obtain ⟨t2, l3, rfl⟩ : ∃ t2 l3, l2 = t2 :: l3 := by
          cases l2 with
          | nil => simp at hne
          | cons a b => exact ⟨a, b, rfl⟩
        have hF2 := fill_first (gp (j + 1))
        have hZb : bt Z 0 = bt (fillOf (gp (j + 1))) 0 := by rw [hZ]; exact bt_l _ _ _ (by omega)
        have hq : A.size + (fillOf (gp j)).size = A.size + F.size := by rw [hFd]
        have hgap : gapB (bt T (A.size + F.size + (e - behind s i))) := by
          have : bt T (A.size + F.size + (e - behind s i)) = bt Z 0 := by
            rw [hTas2]
            have := bt_r (A ++ F ++ S) Z 0
            rw [hAFS, hSe] at this
            exact this
          rw [this, hZb]; exact hF2.1
        have hex : T.extract (A.size + F.size) (A.size + F.size + (e - behind s i)) = s.extract (behind s i) e := by
          rw [hTas, ← hAF, ← hSe, ext_mid, hSd]; exact hs.1.symm
        obtain ⟨o1, o2, o3⟩ := one_again T s sg (A.size + F.size) (behind s i) hsg hbl hb.2 k t e ho hk (by omega) hex hgap
        have hbf := behind_fill T A.size (gp j) (by rw [← hFd]; omega) hbF (by rw [hq]; exact o2) (by rw [hq]; exact o3)
        rw [hq] at hbf
        obtain ⟨l', g1, g2⟩ := ih e (t2 :: l3) hes hr (A ++ F ++ S) (j + 1) m hlen2
        rw [← hZ, ← hTas2, hAFS, hSe] at g1
        refine ⟨⟨k, t, behind T A.size⟩ :: l', ?_, ?_⟩
        · simp only [toksF]
          rw [hbf, o1]
          simp only []
          rw [if_neg hk, g1]
        · rw [List.map_cons, List.map_cons, g2]; rfl

end Go.Proofs.Ytlfpakopahmdiaa
