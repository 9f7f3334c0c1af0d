/-
  Structs in words, in rows, as tables: no two fields share a bit, all stand within, at multiples of their size; rows and pointers are filled.
-/
import Derived.Test.YtlfpakopahmdiaaWords
import Derived.Test.YtlfpakopahmdiaaRowed
import Derived.Test.YtlfpakopahmdiaaTabled
namespace Go.Proofs.Ytlfpakopahmdiaa
open Go.RowKit
set_option linter.unusedVariables false
set_option linter.unusedSimpArgs false

def ag (l : List Int) (i : Nat) : Int := l.getD i 0
theorem ag_set (l : List Int) (i j : Nat) (p : Int) (hi : i < l.length) : ag (l.set i p) j = if j = i then p else ag l j := by
  unfold ag
  rw [List.getD_eq_getElem?_getD, List.getD_eq_getElem?_getD]
  by_cases h : j = i
  · subst h
    rw [if_pos rfl, List.getElem?_set_self hi]; rfl
  · rw [if_neg h, List.getElem?_set_ne (Ne.symm h)]

/-- ranges that are laid: within, apart, each at a multiple of its length -/
structure Lay (M : Prop) (len : Nat → Int) (S : Nat → Prop) (at_ : List Int) (lo pos : Int) : Prop where
  inb : ∀ i, S i → lo ≤ ag at_ i ∧ ag at_ i + len i ≤ pos
  apart : ∀ i j, S i → S j → i ≠ j → ag at_ i + len i ≤ ag at_ j ∨ ag at_ j + len j ≤ ag at_ i
  mult : M → ∀ i, S i → ag at_ i % len i = 0
theorem Lay.empty (M : Prop) (len : Nat → Int) (S : Nat → Prop) (hS : ∀ i, ¬ S i) (at_ : List Int) (lo pos : Int) : Lay M len S at_ lo pos := ⟨fun i h => absurd h (hS i), fun i j h => absurd h (hS i), fun _ i h => absurd h (hS i)⟩
theorem Lay.step {M : Prop} {len : Nat → Int} {S S' : Nat → Prop} {at_ : List Int} {lo pos p pos' : Int} {i : Nat} (h : Lay M len S at_ lo pos) (hi : i < at_.length) (hni : ¬ S i) (hS' : ∀ j, S' j → S j ∨ j = i) (hp : pos ≤ p) (hlo : lo ≤ p) (hlen : 0 ≤ len i) (hm : M → p % len i = 0) (hpos : pos' = p + len i) :
    Lay M len S' (at_.set i p) lo pos' := by
  subst hpos
  refine ⟨fun j hj => ?_, fun j k hj hk hjk => ?_, fun hM j hj => ?_⟩
  · rw [ag_set _ _ _ _ hi]
    by_cases e : j = i
    · rw [if_pos e, e]; omega
    · rw [if_neg e]
      have := h.inb j ((hS' j hj).resolve_right e)
      omega
  · rw [ag_set _ _ _ _ hi, ag_set _ _ _ _ hi]
    by_cases e : j = i
    · rw [if_pos e]
      have hki : k ≠ i := fun e2 => hjk (e.trans e2.symm)
      rw [if_neg hki, e]
      have := h.inb k ((hS' k hk).resolve_right hki)
      omega
    · rw [if_neg e]
      by_cases e2 : k = i
      · rw [if_pos e2, e2]
        have := h.inb j ((hS' j hj).resolve_right e)
        omega
      · rw [if_neg e2]; exact h.apart j k ((hS' j hj).resolve_right e) ((hS' k hk).resolve_right e2) hjk
  · rw [ag_set _ _ _ _ hi]
    by_cases e : j = i
    · rw [if_pos e, e]; exact hm hM
    · rw [if_neg e]; exact h.mult hM j ((hS' j hj).resolve_right e)
theorem Lay.same {M : Prop} {len : Nat → Int} {S S' : Nat → Prop} {at_ : List Int} {lo pos : Int} (h : Lay M len S at_ lo pos) (hS' : ∀ j, S' j → S j) : Lay M len S' at_ lo pos :=
  ⟨fun i hi => h.inb i (hS' i hi), fun i j hi hj => h.apart i j (hS' i hi) (hS' j hj), fun hM i hi => h.mult hM i (hS' i hi)⟩
theorem Lay.to {M : Prop} {len : Nat → Int} {S : Nat → Prop} {at_ at2 : List Int} {lo pos pos' : Int} (h : Lay M len S at_ lo pos) (ha : ∀ i, S i → ag at2 i = ag at_ i) (hp : pos ≤ pos') : Lay M len S at2 lo pos' :=
  ⟨fun i hi => by have := h.inb i hi; rw [ha i hi]; omega, fun i j hi hj hij => by rw [ha i hi, ha j hj]; exact h.apart i j hi hj hij, fun hM i hi => by rw [ha i hi]; exact h.mult hM i hi⟩

/-- all below is covered -/
def Cov (len : Nat → Int) (S : Nat → Prop) (at_ : List Int) (pos : Int) : Prop := ∀ x, 0 ≤ x → x < pos → ∃ i, S i ∧ ag at_ i ≤ x ∧ x < ag at_ i + len i
theorem Cov.step {len : Nat → Int} {S S' : Nat → Prop} {at_ : List Int} {pos pos' : Int} {i : Nat} (h : Cov len S at_ pos) (hi : i < at_.length) (hni : ¬ S i) (hS' : ∀ j, S j → S' j) (hSi : S' i) (hpos : pos' = pos + len i) : Cov len S' (at_.set i pos) pos' := by
  subst hpos
  intro x h0 h1
  by_cases hx : x < pos
  · obtain ⟨j, hj, h2⟩ := h x h0 hx
    refine ⟨j, hS' j hj, ?_⟩
    rw [ag_set _ _ _ _ hi, if_neg (fun (e : j = i) => hni (e ▸ hj))]; exact h2
  · refine ⟨i, hSi, ?_⟩
    rw [ag_set _ _ _ _ hi, if_pos rfl]; omega
theorem Cov.same {len : Nat → Int} {S S' : Nat → Prop} {at_ : List Int} {pos : Int} (h : Cov len S at_ pos) (hS' : ∀ j, S j → S' j) : Cov len S' at_ pos := fun x h0 h1 => by
  obtain ⟨i, hi, h2⟩ := h x h0 h1
  exact ⟨i, hS' i hi, h2⟩

def numF (fs : List FField) (i : Nat) : Prop := isNumB (fget fs i).kind (fget fs i).lists = true
def bitsF (fs : List FField) (i : Nat) : Int := kindBits (fget fs i).kind

/-! ### words -/
def wS (fs : List FField) (z k : Nat) (i : Nat) : Prop := i < fs.length ∧ numF fs i ∧ ((∃ y, y < z ∧ bitsF fs i = wSize y) ∨ (bitsF fs i = wSize z ∧ i < k))
theorem wIn_lay (fs : List FField) (z : Nat) (hz : z < 5) (st : Int × List Int) (hl : st.2.length = fs.length) (h0 : 0 ≤ st.1) (hm : st.1 % wSize z = 0) (h : Lay True (bitsF fs) (wS fs z 0) st.2 0 st.1) :
    ∀ k, k ≤ fs.length → Lay True (bitsF fs) (wS fs z k) (wIn fs (wSize z) st k).2 0 (wIn fs (wSize z) st k).1 ∧ 0 ≤ (wIn fs (wSize z) st k).1 ∧ (wIn fs (wSize z) st k).1 % wSize z = 0 ∧ (wIn fs (wSize z) st k).2.length = fs.length := by
  intro k
  have hzp : wSize z = 64 ∨ wSize z = 32 ∨ wSize z = 16 ∨ wSize z = 8 ∨ wSize z = 1 := by
    have : z = 0 ∨ z = 1 ∨ z = 2 ∨ z = 3 ∨ z = 4 := by omega
    rcases this with rfl | rfl | rfl | rfl | rfl <;> simp [wSize]
  induction k with
  | zero => intro _; exact ⟨h, h0, hm, hl⟩
  | succ k ih =>
    intro hk
    obtain ⟨g1, g2, g3, g4⟩ := ih (by omega)
    simp only [wIn, wStep]
    by_cases hc : isNumB (fget fs k).kind (fget fs k).lists = true ∧ kindBits (fget fs k).kind = wSize z
    · rw [if_pos hc]
      refine ⟨g1.step (i := k) (by rw [g4]; omega) ?_ ?_ (Int.le_refl _) g2 (by rw [bitsF, hc.2]; omega) (fun _ => by rw [bitsF, hc.2]; exact g3) (by rw [bitsF, hc.2]), by simp only []; omega, ?_, by simp [g4]⟩
      · rintro ⟨_, _, ⟨y, hy, he⟩ | ⟨_, he⟩⟩
        · have hb : bitsF fs k = wSize z := hc.2
          rw [hb] at he
          have hy5 : y = 0 ∨ y = 1 ∨ y = 2 ∨ y = 3 := by omega
          have hz5 : z = 0 ∨ z = 1 ∨ z = 2 ∨ z = 3 ∨ z = 4 := by omega
          rcases hy5 with rfl | rfl | rfl | rfl <;> rcases hz5 with rfl | rfl | rfl | rfl | rfl <;> simp [wSize] at he <;> omega
        · omega
      · rintro j ⟨h1, h2, h3 | ⟨h3, h4⟩⟩
        · exact .inl ⟨h1, h2, .inl h3⟩
        · by_cases e : j = k
          · exact .inr e
          · exact .inl ⟨h1, h2, .inr ⟨h3, by omega⟩⟩
      · simp only []
        rcases hzp with e | e | e | e | e <;> rw [e] at g3 ⊢ <;> omega
    · rw [if_neg hc]
      refine ⟨g1.same ?_, g2, g3, g4⟩
      rintro j ⟨h1, h2, h3 | ⟨h3, h4⟩⟩
      · exact ⟨h1, h2, .inl h3⟩
      · refine ⟨h1, h2, .inr ⟨h3, ?_⟩⟩
        by_cases e : j = k
        · subst e; exact absurd ⟨h2, h3⟩ hc
        · omega
theorem wOut_lay (fs : List FField) : ∀ z, z ≤ 5 → Lay True (bitsF fs) (wS fs z 0) (wOut fs z).2 0 (wOut fs z).1 ∧ 0 ≤ (wOut fs z).1 ∧ (z < 5 → (wOut fs z).1 % wSize z = 0) ∧ (wOut fs z).2.length = fs.length := by
  intro z
  induction z with
  | zero =>
    intro _
    refine ⟨Lay.empty _ _ _ (fun i => ?_) _ _ _, Int.le_refl _, fun _ => by simp [wOut, wSize], by simp [wOut]⟩
    rintro ⟨_, _, ⟨y, hy, _⟩ | ⟨_, hi⟩⟩ <;> omega
  | succ z ih =>
    intro hz
    obtain ⟨g1, g2, g3, g4⟩ := ih (by omega)
    obtain ⟨k1, k2, k3, k4⟩ := wIn_lay fs z (by omega) (wOut fs z) g4 g2 (g3 (by omega)) g1 fs.length (Nat.le_refl _)
    refine ⟨k1.same ?_, k2, fun hz5 => ?_, k4⟩
    · rintro j ⟨h1, h2, ⟨y, hy, h3⟩ | ⟨_, h3⟩⟩
      · by_cases e : y = z
        · subst e; exact ⟨h1, h2, .inr ⟨h3, h1⟩⟩
        · exact ⟨h1, h2, .inl ⟨y, by omega, h3⟩⟩
      · omega
    · have hz4 : z = 0 ∨ z = 1 ∨ z = 2 ∨ z = 3 := by omega
      simp only [wOut]
      rcases hz4 with rfl | rfl | rfl | rfl <;> simp only [wSize] at k3 ⊢ <;> omega

theorem num_bits (fs : List FField) (i : Nat) (h : numF fs i) : ∃ y, y < 5 ∧ bitsF fs i = wSize y := by
  unfold numF isNumB at h
  simp only [Bool.and_eq_true, decide_eq_true_eq] at h
  have h2 := h.2
  unfold bitsF kindBits
  by_cases h1 : (fget fs i).kind = 1
  · exact ⟨4, by decide, by rw [if_pos h1]; rfl⟩
  · rw [if_neg h1]
    by_cases h10 : (fget fs i).kind = 10
    · exact ⟨2, by decide, by rw [if_pos h10]; rfl⟩
    · rw [if_neg h10]
      unfold kindSize at h2 ⊢
      split
      · exact ⟨3, by decide, rfl⟩
      · split
        · exact ⟨2, by decide, rfl⟩
        · split
          · exact ⟨1, by decide, rfl⟩
          · split
            · exact ⟨0, by decide, rfl⟩
            · rename_i a b c d; rw [if_neg a, if_neg b, if_neg c, if_neg d] at h2; omega

/-! ### pointers -/
def pS (fs : List FField) (k : Nat) (i : Nat) : Prop := i < k ∧ ¬ numF fs i
theorem pIn_lay (fs : List FField) (A : List Int) (hA : A.length = fs.length) : ∀ k, k ≤ fs.length →
    Lay False (fun _ => 1) (pS fs k) (pIn fs (0, A) k).2 0 (pIn fs (0, A) k).1 ∧ Cov (fun _ => 1) (pS fs k) (pIn fs (0, A) k).2 (pIn fs (0, A) k).1 ∧ 0 ≤ (pIn fs (0, A) k).1 ∧ (pIn fs (0, A) k).2.length = fs.length ∧ ∀ i, numF fs i → ag (pIn fs (0, A) k).2 i = ag A i := by
  intro k
  induction k with
  | zero =>
    intro _
    exact ⟨Lay.empty _ _ _ (fun i h => by have := h.1; omega) _ _ _, fun x h0 h1 => by simp only [pIn] at h1; omega, Int.le_refl _, hA, fun _ _ => rfl⟩
  | succ k ih =>
    intro hk
    obtain ⟨g1, g2, g3, g4, g5⟩ := ih (by omega)
    simp only [pIn, pStep]
    by_cases hc : isNumB (fget fs k).kind (fget fs k).lists = true
    · rw [if_pos hc]
      have hs : ∀ j, pS fs (k + 1) j → pS fs k j := fun j h => by
        refine ⟨?_, h.2⟩
        have h1 := h.1
        by_cases e : j = k
        · subst e; exact absurd hc h.2
        · omega
      exact ⟨g1.same hs, g2.same (fun j h => ⟨by have := h.1; omega, h.2⟩), g3, g4, g5⟩
    · rw [if_neg hc]
      have hni : ¬ pS fs k k := fun h => by have := h.1; omega
      refine ⟨g1.step (i := k) (by rw [g4]; omega) hni (fun j h => ?_) (Int.le_refl _) g3 (by decide) (fun h => h.elim) rfl, g2.step (i := k) (by rw [g4]; omega) hni (fun j h => ⟨by have := h.1; omega, h.2⟩) ⟨by omega, hc⟩ rfl, by simp only []; omega, by simp [g4], fun i hi => ?_⟩
      · by_cases e : j = k
        · exact .inr e
        · exact .inl ⟨by have := h.1; omega, h.2⟩
      · rw [ag_set _ _ _ _ (by rw [g4]; omega), if_neg (fun e : i = k => hc (e ▸ hi))]
        exact g5 i hi

/-- words: numbers and pointers -/
theorem words_apart (fs : List FField) : Lay True (bitsF fs) (fun i => i < fs.length ∧ numF fs i) (wordsP fs).2 0 (64 * wordsN fs) ∧
    Lay False (fun _ => 1) (fun i => i < fs.length ∧ ¬ numF fs i) (wordsP fs).2 0 (wordsP fs).1 ∧ Cov (fun _ => 1) (fun i => i < fs.length ∧ ¬ numF fs i) (wordsP fs).2 (wordsP fs).1 ∧ (wordsP fs).2.length = fs.length := by
  obtain ⟨w1, w2, _, w4⟩ := wOut_lay fs 5 (Nat.le_refl _)
  obtain ⟨p1, p2, p3, p4, p5⟩ := pIn_lay fs (wOut fs 5).2 w4 fs.length (Nat.le_refl _)
  refine ⟨?_, p1, p2, p4⟩
  refine (w1.same (S' := fun i => i < fs.length ∧ numF fs i) (fun i h => ?_)).to (fun i h => p5 i h.2) (by unfold wordsN; omega)
  obtain ⟨y, hy, he⟩ := num_bits fs i h.2
  exact ⟨h.1, h.2, .inl ⟨y, hy, he⟩⟩

/-! ### rows -/
def sizeF (fs : List FField) (i : Nat) : Int := inlineOf (fget fs i).kind (fget fs i).lists
theorem rows_apart (fs : List FField) : ∀ k, k ≤ fs.length →
    Lay False (sizeF fs) (fun i => i < k ∧ numF fs i) (rowsOf fs k).at_ 0 (rowsOf fs k).size ∧ Cov (sizeF fs) (fun i => i < k ∧ numF fs i) (rowsOf fs k).at_ (rowsOf fs k).size ∧ (rowsOf fs k).at_.length = fs.length := by
  intro k
  induction k with
  | zero =>
    intro _
    exact ⟨Lay.empty _ _ _ (fun i h => by have := h.1; omega) _ _ _, fun x h0 h1 => by simp only [rowsOf] at h1; omega, by simp [rowsOf]⟩
  | succ k ih =>
    intro hk
    obtain ⟨g1, g2, g3⟩ := ih (by omega)
    have g0 := (rowsOf_bd fs k).2.1
    simp only [rowsOf, rStep]
    by_cases hc : isNumB (fget fs k).kind (fget fs k).lists = true
    · rw [if_pos hc]
      have hsz : sizeF fs k = kindSize (fget fs k).kind := by rw [sizeF, inlineOf, if_pos hc]
      have hb := kindSize_bd (fget fs k).kind
      have hni : ¬ (k < k ∧ numF fs k) := fun h => by have := h.1; omega
      refine ⟨g1.step (i := k) (by rw [g3]; omega) hni (fun j h => ?_) (Int.le_refl _) g0 (by rw [hsz]; exact hb.1) (fun h => h.elim) (by rw [hsz]), g2.step (i := k) (by rw [g3]; omega) hni (fun j h => ⟨by have := h.1; omega, h.2⟩) ⟨by omega, hc⟩ (by rw [hsz]), by simp [g3]⟩
      by_cases e : j = k
      · exact .inr e
      · exact .inl ⟨by have := h.1; omega, h.2⟩
    · rw [if_neg hc]
      have hs : ∀ j, (j < k + 1 ∧ numF fs j) → (j < k ∧ numF fs j) := fun j h => by
        refine ⟨?_, h.2⟩
        have h1 := h.1
        by_cases e : j = k
        · subst e; exact absurd h.2 hc
        · omega
      split
      · exact ⟨g1.same hs, g2.same (fun j h => ⟨by have := h.1; omega, h.2⟩), g3⟩
      · exact ⟨g1.same hs, g2.same (fun j h => ⟨by have := h.1; omega, h.2⟩), g3⟩

/-! ### tables -/
def tS (fs : List FField) (th : List Bool) (z k : Nat) (i : Nat) : Prop := i < fs.length ∧ thereB th i = true ∧ ((∃ y, y < z ∧ sizeF fs i = tSize y) ∨ (sizeF fs i = tSize z ∧ i < k))
theorem tSize_inj (y z : Nat) (hy : y < 4) (hz : z < 4) (h : tSize y = tSize z) : y = z := by
  have h1 : y = 0 ∨ y = 1 ∨ y = 2 ∨ y = 3 := by omega
  have h2 : z = 0 ∨ z = 1 ∨ z = 2 ∨ z = 3 := by omega
  rcases h1 with rfl | rfl | rfl | rfl <;> rcases h2 with rfl | rfl | rfl | rfl <;> simp [tSize] at h ⊢
theorem tIn_lay (fs : List FField) (th : List Bool) (z : Nat) (hz : z < 4) (st : TabSt) (hl : st.at_.length = fs.length) (h0 : 4 ≤ st.size) (h : Lay True (sizeF fs) (tS fs th z 0) st.at_ 4 st.size) :
    ∀ k, k ≤ fs.length → Lay True (sizeF fs) (tS fs th z k) (tIn fs th (tSize z) st k).at_ 4 (tIn fs th (tSize z) st k).size ∧ 4 ≤ (tIn fs th (tSize z) st k).size ∧ (tIn fs th (tSize z) st k).at_.length = fs.length := by
  intro k
  have hzp := tSize_or z
  induction k with
  | zero => intro _; exact ⟨h, h0, hl⟩
  | succ k ih =>
    intro hk
    obtain ⟨g1, g2, g3⟩ := ih (by omega)
    simp only [tIn, tStep]
    by_cases hc : thereB th k = true ∧ inlineOf (fget fs k).kind (fget fs k).lists = tSize z
    · rw [if_pos hc]
      have hr := roundUp_bd (tIn fs th (tSize z) st k).size (tSize z) hzp
      have hsz : sizeF fs k = tSize z := hc.2
      refine ⟨g1.step (i := k) (by rw [g3]; omega) ?_ ?_ hr.1 (by omega) (by rw [hsz]; rcases hzp with e | e | e | e <;> rw [e] <;> decide) (fun _ => by rw [hsz]; exact hr.2.2) (by rw [hsz]), ?_, by simp [g3]⟩
      · rintro ⟨_, _, ⟨y, hy, he⟩ | ⟨_, he⟩⟩
        · rw [hsz] at he
          have := tSize_inj z y hz (by omega) he
          omega
        · omega
      · rintro j ⟨h1, h2, h3 | ⟨h3, h4⟩⟩
        · exact .inl ⟨h1, h2, .inl h3⟩
        · by_cases e : j = k
          · exact .inr e
          · exact .inl ⟨h1, h2, .inr ⟨h3, by omega⟩⟩
      · simp only []
        have hz1 : 0 ≤ tSize z := by rcases hzp with e | e | e | e <;> rw [e] <;> decide
        have := hr.1
        omega
    · rw [if_neg hc]
      refine ⟨g1.same ?_, g2, g3⟩
      rintro j ⟨h1, h2, h3 | ⟨h3, h4⟩⟩
      · exact ⟨h1, h2, .inl h3⟩
      · refine ⟨h1, h2, .inr ⟨h3, ?_⟩⟩
        by_cases e : j = k
        · subst e; exact absurd ⟨h2, h3⟩ hc
        · omega
theorem tOut_lay (fs : List FField) (th : List Bool) : ∀ z, z ≤ 4 → Lay True (sizeF fs) (tS fs th z 0) (tOut fs th z).at_ 4 (tOut fs th z).size ∧ 4 ≤ (tOut fs th z).size ∧ (tOut fs th z).at_.length = fs.length := by
  intro z
  induction z with
  | zero =>
    intro _
    refine ⟨Lay.empty _ _ _ (fun i => ?_) _ _ _, by simp [tOut], by simp [tOut]⟩
    rintro ⟨_, _, ⟨y, hy, _⟩ | ⟨_, hi⟩⟩ <;> omega
  | succ z ih =>
    intro hz
    obtain ⟨g1, g2, g3⟩ := ih (by omega)
    obtain ⟨k1, k2, k3⟩ := tIn_lay fs th z (by omega) (tOut fs th z) g3 g2 g1 fs.length (Nat.le_refl _)
    refine ⟨k1.same ?_, k2, k3⟩
    rintro j ⟨h1, h2, ⟨y, hy, h3⟩ | ⟨_, h3⟩⟩
    · by_cases e : y = z
      · subst e; exact ⟨h1, h2, .inr ⟨h3, h1⟩⟩
      · exact ⟨h1, h2, .inl ⟨y, by omega, h3⟩⟩
    · omega
theorem size_ts (fs : List FField) (i : Nat) : ∃ y, y < 4 ∧ sizeF fs i = tSize y := by
  unfold sizeF inlineOf
  by_cases h : isNumB (fget fs i).kind (fget fs i).lists = true
  · rw [if_pos h]
    unfold isNumB at h
    simp only [Bool.and_eq_true, decide_eq_true_eq] at h
    have h2 := h.2
    unfold kindSize at h2 ⊢
    split
    · exact ⟨3, by decide, rfl⟩
    · split
      · exact ⟨2, by decide, rfl⟩
      · split
        · exact ⟨1, by decide, rfl⟩
        · split
          · exact ⟨0, by decide, rfl⟩
          · rename_i a b c d; rw [if_neg a, if_neg b, if_neg c, if_neg d] at h2; omega
  · rw [if_neg h]; exact ⟨1, by decide, rfl⟩
/-- tables -/
theorem tables_apart (fs : List FField) (th : List Bool) : Lay True (sizeF fs) (fun i => i < fs.length ∧ thereB th i = true) (tOut fs th 4).at_ 4 (tOut fs th 4).size := by
  refine (tOut_lay fs th 4 (Nat.le_refl _)).1.same (fun i h => ?_)
  obtain ⟨y, hy, he⟩ := size_ts fs i
  exact ⟨h.1, h.2, .inl ⟨y, hy, he⟩⟩

/-- what is taken of a row of bools: the ranges of the first k -/
def took (len : Nat → Int) (S : Nat → Prop) [DecidablePred S] (at_ : List Int) (k : Nat) (x : Nat) : Bool :=
  decide (∃ i, i < k ∧ S i ∧ ag at_ i ≤ (x : Int) ∧ (x : Int) < ag at_ i + len i)
theorem took_zero (len : Nat → Int) (S : Nat → Prop) [DecidablePred S] (at_ : List Int) (x : Nat) : took len S at_ 0 x = false := decide_eq_false (fun ⟨i, hi, _⟩ => by omega)
theorem took_skip (len : Nat → Int) (S : Nat → Prop) [DecidablePred S] (at_ : List Int) (k x : Nat) (h : ¬ S k) : took len S at_ (k + 1) x = took len S at_ k x := by
  unfold took
  rw [decide_eq_decide]
  constructor
  · rintro ⟨i, hi, hs, h2⟩
    have : i ≠ k := fun e => h (e ▸ hs)
    exact ⟨i, by omega, hs, h2⟩
  · rintro ⟨i, hi, hs, h2⟩; exact ⟨i, by omega, hs, h2⟩
theorem took_next (len : Nat → Int) (S : Nat → Prop) [DecidablePred S] (at_ : List Int) (k x : Nat) (h : S k) : took len S at_ (k + 1) x = (took len S at_ k x || (decide (ag at_ k ≤ (x : Int)) && decide ((x : Int) < ag at_ k + len k))) := by
  unfold took
  rw [Bool.eq_iff_iff]
  simp only [Bool.or_eq_true, Bool.and_eq_true, decide_eq_true_eq]
  constructor
  · rintro ⟨i, hi, hs, h2, h3⟩
    by_cases e : i = k
    · subst e; exact .inr ⟨h2, h3⟩
    · exact .inl ⟨i, by omega, hs, h2, h3⟩
  · rintro (⟨i, hi, hs, h2, h3⟩ | ⟨h2, h3⟩)
    · exact ⟨i, by omega, hs, h2, h3⟩
    · exact ⟨k, by omega, h, h2, h3⟩
theorem took_free {M : Prop} {len : Nat → Int} {S : Nat → Prop} [DecidablePred S] {at_ : List Int} {lo pos : Int} (h : Lay M len S at_ lo pos) (k x : Nat) (hk : S k) (h1 : ag at_ k ≤ (x : Int)) (h2 : (x : Int) < ag at_ k + len k) : took len S at_ k x = false := by
  refine decide_eq_false ?_
  rintro ⟨i, hi, hs, h3, h4⟩
  rcases h.apart i k hs hk (by omega) with h5 | h5 <;> omega
theorem took_all {len : Nat → Int} {S : Nat → Prop} [DecidablePred S] {at_ : List Int} {pos : Int} {n : Nat} (h : Cov len S at_ pos) (hS : ∀ i, S i → i < n) (x : Nat) (hx : (x : Int) < pos) : took len S at_ n x = true := by
  obtain ⟨i, hi, h1, h2⟩ := h x (by omega) hx
  exact decide_eq_true ⟨i, hS i hi, hi, h1, h2⟩

end Go.Proofs.Ytlfpakopahmdiaa
