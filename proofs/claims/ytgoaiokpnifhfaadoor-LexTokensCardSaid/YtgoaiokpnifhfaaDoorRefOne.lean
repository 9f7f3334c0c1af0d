/-
  The document's tokens: the token at a place (seat of LexTokens alone).
-/
import Derived.Test.YtgoaiokpnifhfaaDoorLexT
import Derived.Test.YtgoaiokpnifhfaaDoorRefG
namespace Go.Proofs.YtgoaiokpnifhfaaDoor
open Go.RowKit
set_option linter.unusedVariables false
set_option linter.unusedSimpArgs false

set_option maxHeartbeats 400000 in
theorem refLetter_calls : ByteFn 96 isLetter := by
  intro c w h0 h1
  go_enter Tryd.func96, Tryd.ntmps96
  go_wp2
  all_goals go_ret
  all_goals exact ⟨ret_bool (by rw [Bool.eq_iff_iff]; simp_all [isLetter, bne] <;> omega), rfl⟩

set_option maxHeartbeats 1000000 in
theorem refHas_calls (sg : ByteArray) (c : Int) (hs : sg.size ≤ 100000) (w : World) : Calls Tryd.prog 100 #[.string sg, .int .u8 c] w fun e w' => e = .returned (.bool (hasSign sg c)) ∧ w = w' := by
  go_enter Tryd.func100, Tryd.ntmps100
  go_wp2_with fail
  go_loop [5] (fun v5 => ∃ k : Nat, k ≤ sg.size ∧ v5 = .int .i64 (k : Int) ∧ Hid (∀ x, x < k → bt sg x ≠ c)) (fun v5 => sg.size - (intOf v5).toNat)
  case atStart => exact ⟨0, by omega, rfl, fun x h => by omega⟩
  case round =>
    obtain ⟨k, hk, rfl, hall⟩ := hrel
    by_cases hkl : k < sg.size
    · have hkI : (k : Int) < (sg.size : Int) := by omega
      have hb := bt_in sg k hkl
      by_cases hc : bt sg k = c
      · have hbc : (((sg[k]'hkl).toNat : Int) == c) = true := by rw [hb, hc]; simp
        have HF := Lib.hid (show hasSign sg c = true from decide_eq_true ⟨k, hkl, hc⟩)
        clear hb hc
        go_wp2_with fail
        go_ret
        exact ⟨by rw [HF.out]; rfl, rfl⟩
      · have hbc : (((sg[k]'hkl).toNat : Int) == c) = false := by rw [hb, beq_eq_false_iff_ne]; exact hc
        have HC := Lib.hid hc
        clear hb hc
        go_wp2_with fail
        go_round
        case rel =>
          refine ⟨k + 1, by omega, by go_num, fun x hx => ?_⟩
          by_cases e : x = k
          · rw [e]; exact HC.out
          · exact hall.out x (by omega)
        case measure => simp [intOf]; omega
    · have hkI : (sg.size : Int) ≤ (k : Int) := by omega
      have HF := Lib.hid (show hasSign sg c = false from decide_eq_false (fun ⟨j, hj, he⟩ => hall.out j (by omega) he))
      go_wp2_with fail
      go_ret
      exact ⟨by rw [HF.out]; rfl, rfl⟩

def oneV (k : Int) (t : ByteArray) (i : Nat) (x : Nat) (ok : Bool) : Value := .tuple #[.agg #[.int .i64 k, .string t, .int .i64 (i : Int)], .int .i64 (x : Int), .bool ok]
def OneOk (w : World) (i : Nat) (k : Int) (t : ByteArray) (x : Nat) (e : Ending) (w' : World) : Prop := e = .returned (oneV k t i x true) ∧ Below w.heap.size w w'
def OneNo (w : World) (i : Nat) (e : Ending) (w' : World) : Prop := ∃ k t x, e = .returned (oneV k t i x false) ∧ Below w.heap.size w w'

/-- a run of bytes of a kind, one byte at a time -/
theorem at_nat (i : Nat) : ((i : Int)).toNat = i := Int.toNat_natCast i

set_option maxHeartbeats 2000000 in
set_option maxRecDepth 100000 in
theorem one_name (s sg : ByteArray) (i : Nat) (w : World) (hs : s.size ≤ 100000) (hi : i < s.size) (hl : isLetter (bt s i) = true) :
    Calls Tryd.prog 44 #[.string s, .string sg, .int .i64 (i : Int)] w (OneOk w i 1 (s.extract i (spanEnd s isNamed i)) (spanEnd s isNamed i)) := by
  have hiI : (i : Int) < (s.size : Int) := by omega
  have hi0 : (0 : Int) ≤ (i : Int) := by omega
  have hbi := bt_in s i hi
  have hcl := fun (W : World) => refLetter_calls (bt s i) W (bt_bd s i).1 (bt_bd s i).2
  rw [hl, ← hbi] at hcl
  clear hbi
  go_enter Tryd.func44, Tryd.ntmps44
  go_wp2_with fail
  refine (hcl _).mono ?_
  rintro e w' ⟨rfl, rfl⟩
  clear hcl
  go_wp2_with fail
  go_loop [10] (fun v10 => ∃ k : Nat, i ≤ k ∧ k ≤ s.size ∧ v10 = .int .i64 (k : Int) ∧ Hid (∀ x, i ≤ x → x < k → isNamed (bt s x) = true)) (fun v10 => s.size - (intOf v10).toNat)
  case atStart => exact ⟨i, Nat.le_refl _, by omega, rfl, fun x h1 h2 => by omega⟩
  case round =>
    obtain ⟨k, hik, hks, rfl, hall⟩ := hrel
    have hca := fun (W : World) => refAt_calls s (k : Int) (by omega) hs W
    rw [at_nat] at hca
    have hcl := fun (W : World) => refLetter_calls (bt s k) W (bt_bd s k).1 (bt_bd s k).2
    have hcd := fun (W : World) => refDigit_calls (bt s k) W (bt_bd s k).1 (bt_bd s k).2
    have hnm : isNamed (bt s k) = (isLetter (bt s k) || isDigit (bt s k)) := rfl
    have hlt : isNamed (bt s k) = true → k < s.size := fun h => by
      by_cases hz : k < s.size
      · exact hz
      · rw [bt_out s k hz] at h; simp [isNamed, isLetter, isDigit] at h
    obtain ⟨c, hc⟩ : ∃ c, c = bt s k := ⟨_, rfl⟩
    rw [← hc] at hca hcl hcd hnm hlt
    have HC := Lib.hid hc
    have HLT := Lib.hid hlt
    clear hc hlt
    have hkI : (k : Int) ≤ (s.size : Int) := by omega
    have hikI : (i : Int) ≤ (k : Int) := by omega
    cases hlt : isLetter c with
    | true =>
      rw [hlt] at hcl hnm
      have HN := Lib.hid (show isNamed (bt s k) = true by rw [← HC.out, hnm]; rfl)
      have hkl := HLT.out (by rw [hnm]; rfl)
      clear hlt hnm hcd
      go_wp2_with fail
      refine (hca _).mono ?_
      rintro e w' ⟨rfl, rfl⟩
      go_wp2_with fail
      refine (hcl _).mono ?_
      rintro e w' ⟨rfl, rfl⟩
      go_wp2_with fail
      go_round
      case rel =>
        refine ⟨k + 1, by omega, by omega, by go_num, fun x h1 h2 => ?_⟩
        by_cases e : x = k
        · rw [e]; exact HN.out
        · exact hall.out x h1 (by omega)
      case measure => simp [intOf]; omega
    | false =>
      cases hdg : isDigit c with
      | true =>
        rw [hlt] at hcl hnm
        rw [hdg] at hcd hnm
        have HN := Lib.hid (show isNamed (bt s k) = true by rw [← HC.out, hnm]; rfl)
        have hkl := HLT.out (by rw [hnm]; rfl)
        clear hlt hdg hnm
        go_wp2_with fail
        refine (hca _).mono ?_
        rintro e w' ⟨rfl, rfl⟩
        go_wp2_with fail
        refine (hcl _).mono ?_
        rintro e w' ⟨rfl, rfl⟩
        go_wp2_with fail
        refine (hca _).mono ?_
        rintro e w' ⟨rfl, rfl⟩
        go_wp2_with fail
        refine (hcd _).mono ?_
        rintro e w' ⟨rfl, rfl⟩
        go_wp2_with fail
        go_round
        case rel =>
          refine ⟨k + 1, by omega, by omega, by go_num, fun x h1 h2 => ?_⟩
          by_cases e : x = k
          · rw [e]; exact HN.out
          · exact hall.out x h1 (by omega)
        case measure => simp [intOf]; omega
      | false =>
        rw [hlt] at hcl hnm
        rw [hdg] at hcd hnm
        have hse : spanEnd s isNamed i = k := spanEnd_eq s isNamed i k hik hks hall.out (.inr (by rw [← HC.out, hnm]; rfl))
        have HSE := Lib.hid hse
        clear hlt hdg hnm hse
        go_wp2_with fail
        refine (hca _).mono ?_
        rintro e w' ⟨rfl, rfl⟩
        go_wp2_with fail
        refine (hcl _).mono ?_
        rintro e w' ⟨rfl, rfl⟩
        go_wp2_with fail
        refine (hca _).mono ?_
        rintro e w' ⟨rfl, rfl⟩
        go_wp2_with fail
        refine (hcd _).mono ?_
        rintro e w' ⟨rfl, rfl⟩
        go_wp2_with fail
        refine bodyPost_ret (v := oneV 1 (s.extract i k) i k true) (by simp [results, Tryd.results44, go_sem, oneV, *]) rfl ?_
        unfold OneOk
        rw [HSE.out]
        exact ⟨rfl, by (repeat' (first | (with_reducible exact Below.refl _ _) | (with_reducible assumption) | (with_reducible refine Below.alloc ?_ ?_ _) | (with_reducible refine Below.drew ?_) | (with_reducible refine Below.setCell ?_ ?_ _) | (with_reducible refine Below.trans ?_ (Below.mono (by assumption) ?_)) | go_size))⟩

/-- one of two, by a test -/
structure IfPost (c A B : Prop) : Prop where
  yes : c → A
  no : ¬ c → B
theorem ifPost_yes {c A B : Prop} (h : c) (a : A) : IfPost c A B := ⟨fun _ => a, fun n => absurd h n⟩
theorem ifPost_no {c A B : Prop} (h : ¬ c) (b : B) : IfPost c A B := ⟨fun y => absurd y h, fun _ => b⟩
def OneNumPost (w : World) (s : ByteArray) (i : Nat) (e : Ending) (w' : World) : Prop :=
  IfPost (goodB (s.extract i (spanEnd s isDigit (i + 1))) = true ∧ isLetter (bt s (spanEnd s isDigit (i + 1))) = false) (OneOk w i 2 (s.extract i (spanEnd s isDigit (i + 1))) (spanEnd s isDigit (i + 1)) e w') (OneNo w i e w')
theorem refGood_run (s : ByteArray) (i : Nat) (hi : i < s.size) (hn : numStart s i = true) : refGoodB (s.extract i (spanEnd s isDigit (i + 1))) = goodB (s.extract i (spanEnd s isDigit (i + 1))) := by
  have sp := spanEnd_bd s isDigit (i + 1) (by omega)
  obtain ⟨x, hx⟩ : ∃ x, x = spanEnd s isDigit (i + 1) := ⟨_, rfl⟩
  rw [← hx] at sp ⊢
  have hz : (s.extract i x).size = x - i := piece_size _ _ _ sp.2.1
  have hb : ∀ j, j < x - i → bt (s.extract i x) j = bt s (i + j) := fun j hj => bt_piece s i x j hj sp.2.1
  have hall : allDigits (digits (s.extract i x)) (digits (s.extract i x)).size := by
    intro j hj
    have hdz : (digits (s.extract i x)).size = (s.extract i x).size - digFrom (s.extract i x) := by rw [digits, piece_size _ _ _ (Nat.le_refl _)]
    rw [hdz] at hj
    have hbd : bt (digits (s.extract i x)) j = bt s (i + (digFrom (s.extract i x) + j)) := by
      rw [digits, bt_piece _ _ _ _ (by omega) (Nat.le_refl _), hb _ (by omega)]
    rw [hbd]
    by_cases hd : digFrom (s.extract i x) + j = 0
    · rw [hd, Nat.add_zero]
      have hm : hasMinus (s.extract i x) = false := by
        cases h : hasMinus (s.extract i x) with
        | false => rfl
        | true => rw [digFrom, if_pos h] at hd; omega
      rw [hasMinus, decide_eq_false_iff_not, hb 0 (by omega), Nat.add_zero] at hm
      rw [numStart, Bool.or_eq_true, Bool.and_eq_true, decide_eq_true_eq] at hn
      rcases hn with hn | hn
      · exact hn
      · exact absurd hn.1 hm
    · exact sp.2.2.1 _ (by omega) (by omega)
  rw [refGoodB, decide_eq_true hall, Bool.and_true]

end Go.Proofs.YtgoaiokpnifhfaaDoor
