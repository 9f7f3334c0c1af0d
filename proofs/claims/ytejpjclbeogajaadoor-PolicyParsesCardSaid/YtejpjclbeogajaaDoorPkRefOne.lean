/-
  Parts: RefOne, RefOneN, RefOneQ, RefOneS.
-/
import Derived.Test.YtejpjclbeogajaaDoorLexT
import Derived.Test.YtejpjclbeogajaaDoorRefG
import Derived.Test.YtejpjclbeogajaaDoorRefUtf
import Derived.Test.YtejpjclbeogajaaDoorLexN

/-
  The document's tokens: the token at a place (seat of LexTokens alone).
-/
namespace Go.Proofs.YtejpjclbeogajaaDoor
open Go.RowKit
set_option linter.unusedVariables false
set_option linter.unusedSimpArgs false

set_option maxHeartbeats 400000 in
theorem refLetter_calls : ByteFn 79 isLetter := by
  intro c w h0 h1
  go_enter Tryd.func79, Tryd.ntmps79
  go_wp2
  all_goals go_ret
  all_goals exact ⟨ret_bool (by rw [Bool.eq_iff_iff]; simp_all [isLetter, bne] <;> omega), rfl⟩

set_option maxHeartbeats 1000000 in
theorem refHas_calls (sg : ByteArray) (c : Int) (hs : sg.size ≤ 100000) (w : World) : Calls Tryd.prog 83 #[.string sg, .int .u8 c] w fun e w' => e = .returned (.bool (hasSign sg c)) ∧ w = w' := by
  go_enter Tryd.func83, Tryd.ntmps83
  go_wp2_with fail
  go_loop [5] (fun v5 => ∃ k : Nat, k ≤ sg.size ∧ v5 = .int .i64 (k : Int) ∧ Hid (∀ x, x < k → bt sg x ≠ c)) (fun v5 => sg.size - (intOf v5).toNat)
  case atStart => exact ⟨0, by omega, rfl, fun x h => by omega⟩
  case round =>
    obtain ⟨k, hk, rfl, hall⟩ := hrel
    by_cases hkl : k < sg.size
    · have hkI : (k : Int) < (sg.size : Int) := by omega
      have hb := bt_in sg k hkl
      by_cases hc : bt sg k = c
      · have hbc : (((sg[k]'hkl).toNat : Int) == c) = true := by rw [hb, hc]; simp
        have HF := Lib.hid (show hasSign sg c = true from decide_eq_true ⟨k, hkl, hc⟩)
        clear hb hc
        go_wp2_with fail
        go_ret
        exact ⟨by rw [HF.out]; rfl, rfl⟩
      · have hbc : (((sg[k]'hkl).toNat : Int) == c) = false := by rw [hb, beq_eq_false_iff_ne]; exact hc
        have HC := Lib.hid hc
        clear hb hc
        go_wp2_with fail
        go_round
        case rel =>
          refine ⟨k + 1, by omega, by go_num, fun x hx => ?_⟩
          by_cases e : x = k
          · rw [e]; exact HC.out
          · exact hall.out x (by omega)
        case measure => simp [intOf]; omega
    · have hkI : (sg.size : Int) ≤ (k : Int) := by omega
      have HF := Lib.hid (show hasSign sg c = false from decide_eq_false (fun ⟨j, hj, he⟩ => hall.out j (by omega) he))
      go_wp2_with fail
      go_ret
      exact ⟨by rw [HF.out]; rfl, rfl⟩

def oneV (k : Int) (t : ByteArray) (i : Nat) (x : Nat) (ok : Bool) : Value := .tuple #[.agg #[.int .i64 k, .string t, .int .i64 (i : Int)], .int .i64 (x : Int), .bool ok]
def OneOk (w : World) (i : Nat) (k : Int) (t : ByteArray) (x : Nat) (e : Ending) (w' : World) : Prop := e = .returned (oneV k t i x true) ∧ Below w.heap.size w w'
def OneNo (w : World) (i : Nat) (e : Ending) (w' : World) : Prop := ∃ k t x, e = .returned (oneV k t i x false) ∧ Below w.heap.size w w'

/-- a run of bytes of a kind, one byte at a time -/
theorem at_nat (i : Nat) : ((i : Int)).toNat = i := Int.toNat_natCast i

set_option maxHeartbeats 2000000 in
set_option maxRecDepth 100000 in
theorem one_name (s sg : ByteArray) (i : Nat) (w : World) (hs : s.size ≤ 100000) (hi : i < s.size) (hl : isLetter (bt s i) = true) :
    Calls Tryd.prog 42 #[.string s, .string sg, .int .i64 (i : Int)] w (OneOk w i 1 (s.extract i (spanEnd s isNamed i)) (spanEnd s isNamed i)) := by
  have hiI : (i : Int) < (s.size : Int) := by omega
  have hi0 : (0 : Int) ≤ (i : Int) := by omega
  have hbi := bt_in s i hi
  have hcl := fun (W : World) => refLetter_calls (bt s i) W (bt_bd s i).1 (bt_bd s i).2
  rw [hl, ← hbi] at hcl
  clear hbi
  go_enter Tryd.func42, Tryd.ntmps42
  go_wp2_with fail
  refine (hcl _).mono ?_
  rintro e w' ⟨rfl, rfl⟩
  clear hcl
  go_wp2_with fail
  go_loop [10] (fun v10 => ∃ k : Nat, i ≤ k ∧ k ≤ s.size ∧ v10 = .int .i64 (k : Int) ∧ Hid (∀ x, i ≤ x → x < k → isNamed (bt s x) = true)) (fun v10 => s.size - (intOf v10).toNat)
  case atStart => exact ⟨i, Nat.le_refl _, by omega, rfl, fun x h1 h2 => by omega⟩
  case round =>
    obtain ⟨k, hik, hks, rfl, hall⟩ := hrel
    have hca := fun (W : World) => refAt_calls s (k : Int) (by omega) hs W
    rw [at_nat] at hca
    have hcl := fun (W : World) => refLetter_calls (bt s k) W (bt_bd s k).1 (bt_bd s k).2
    have hcd := fun (W : World) => refDigit_calls (bt s k) W (bt_bd s k).1 (bt_bd s k).2
    have hnm : isNamed (bt s k) = (isLetter (bt s k) || isDigit (bt s k)) := rfl
    have hlt : isNamed (bt s k) = true → k < s.size := fun h => by
      by_cases hz : k < s.size
      · exact hz
      · rw [bt_out s k hz] at h; simp [isNamed, isLetter, isDigit] at h
    obtain ⟨c, hc⟩ : ∃ c, c = bt s k := ⟨_, rfl⟩
    rw [← hc] at hca hcl hcd hnm hlt
    have HC := Lib.hid hc
    have HLT := Lib.hid hlt
    clear hc hlt
    have hkI : (k : Int) ≤ (s.size : Int) := by omega
    have hikI : (i : Int) ≤ (k : Int) := by omega
    cases hlt : isLetter c with
    | true =>
      rw [hlt] at hcl hnm
      have HN := Lib.hid (show isNamed (bt s k) = true by rw [← HC.out, hnm]; rfl)
      have hkl := HLT.out (by rw [hnm]; rfl)
      clear hlt hnm hcd
      go_wp2_with fail
      refine (hca _).mono ?_
      rintro e w' ⟨rfl, rfl⟩
      go_wp2_with fail
      refine (hcl _).mono ?_
      rintro e w' ⟨rfl, rfl⟩
      go_wp2_with fail
      go_round
      case rel =>
        refine ⟨k + 1, by omega, by omega, by go_num, fun x h1 h2 => ?_⟩
        by_cases e : x = k
        · rw [e]; exact HN.out
        · exact hall.out x h1 (by omega)
      case measure => simp [intOf]; omega
    | false =>
      cases hdg : isDigit c with
      | true =>
        rw [hlt] at hcl hnm
        rw [hdg] at hcd hnm
        have HN := Lib.hid (show isNamed (bt s k) = true by rw [← HC.out, hnm]; rfl)
        have hkl := HLT.out (by rw [hnm]; rfl)
        clear hlt hdg hnm
        go_wp2_with fail
        refine (hca _).mono ?_
        rintro e w' ⟨rfl, rfl⟩
        go_wp2_with fail
        refine (hcl _).mono ?_
        rintro e w' ⟨rfl, rfl⟩
        go_wp2_with fail
        refine (hca _).mono ?_
        rintro e w' ⟨rfl, rfl⟩
        go_wp2_with fail
        refine (hcd _).mono ?_
        rintro e w' ⟨rfl, rfl⟩
        go_wp2_with fail
        go_round
        case rel =>
          refine ⟨k + 1, by omega, by omega, by go_num, fun x h1 h2 => ?_⟩
          by_cases e : x = k
          · rw [e]; exact HN.out
          · exact hall.out x h1 (by omega)
        case measure => simp [intOf]; omega
      | false =>
        rw [hlt] at hcl hnm
        rw [hdg] at hcd hnm
        have hse : spanEnd s isNamed i = k := spanEnd_eq s isNamed i k hik hks hall.out (.inr (by rw [← HC.out, hnm]; rfl))
        have HSE := Lib.hid hse
        clear hlt hdg hnm hse
        go_wp2_with fail
        refine (hca _).mono ?_
        rintro e w' ⟨rfl, rfl⟩
        go_wp2_with fail
        refine (hcl _).mono ?_
        rintro e w' ⟨rfl, rfl⟩
        go_wp2_with fail
        refine (hca _).mono ?_
        rintro e w' ⟨rfl, rfl⟩
        go_wp2_with fail
        refine (hcd _).mono ?_
        rintro e w' ⟨rfl, rfl⟩
        go_wp2_with fail
        refine bodyPost_ret (v := oneV 1 (s.extract i k) i k true) (by simp [results, Tryd.results42, go_sem, oneV, *]) rfl ?_
        unfold OneOk
        rw [HSE.out]
        exact ⟨rfl, by (repeat' (first | (with_reducible exact Below.refl _ _) | (with_reducible assumption) | (with_reducible refine Below.alloc ?_ ?_ _) | (with_reducible refine Below.drew ?_) | (with_reducible refine Below.setCell ?_ ?_ _) | (with_reducible refine Below.trans ?_ (Below.mono (by assumption) ?_)) | go_size))⟩

/-- one of two, by a test -/
structure IfPost (c A B : Prop) : Prop where
  yes : c → A
  no : ¬ c → B
theorem ifPost_yes {c A B : Prop} (h : c) (a : A) : IfPost c A B := ⟨fun _ => a, fun n => absurd h n⟩
theorem ifPost_no {c A B : Prop} (h : ¬ c) (b : B) : IfPost c A B := ⟨fun y => absurd y h, fun _ => b⟩
def OneNumPost (w : World) (s : ByteArray) (i : Nat) (e : Ending) (w' : World) : Prop :=
  IfPost (goodB (s.extract i (spanEnd s isDigit (i + 1))) = true ∧ isLetter (bt s (spanEnd s isDigit (i + 1))) = false) (OneOk w i 2 (s.extract i (spanEnd s isDigit (i + 1))) (spanEnd s isDigit (i + 1)) e w') (OneNo w i e w')
theorem refGood_run (s : ByteArray) (i : Nat) (hi : i < s.size) (hn : numStart s i = true) : refGoodB (s.extract i (spanEnd s isDigit (i + 1))) = goodB (s.extract i (spanEnd s isDigit (i + 1))) := by
  have sp := spanEnd_bd s isDigit (i + 1) (by omega)
  obtain ⟨x, hx⟩ : ∃ x, x = spanEnd s isDigit (i + 1) := ⟨_, rfl⟩
  rw [← hx] at sp ⊢
  have hz : (s.extract i x).size = x - i := piece_size _ _ _ sp.2.1
  have hb : ∀ j, j < x - i → bt (s.extract i x) j = bt s (i + j) := fun j hj => bt_piece s i x j hj sp.2.1
  have hall : allDigits (digits (s.extract i x)) (digits (s.extract i x)).size := by
    intro j hj
    have hdz : (digits (s.extract i x)).size = (s.extract i x).size - digFrom (s.extract i x) := by rw [digits, piece_size _ _ _ (Nat.le_refl _)]
    rw [hdz] at hj
    have hbd : bt (digits (s.extract i x)) j = bt s (i + (digFrom (s.extract i x) + j)) := by
      rw [digits, bt_piece _ _ _ _ (by omega) (Nat.le_refl _), hb _ (by omega)]
    rw [hbd]
    by_cases hd : digFrom (s.extract i x) + j = 0
    · rw [hd, Nat.add_zero]
      have hm : hasMinus (s.extract i x) = false := by
        cases h : hasMinus (s.extract i x) with
        | false => rfl
        | true => rw [digFrom, if_pos h] at hd; omega
      rw [hasMinus, decide_eq_false_iff_not, hb 0 (by omega), Nat.add_zero] at hm
      rw [numStart, Bool.or_eq_true, Bool.and_eq_true, decide_eq_true_eq] at hn
      rcases hn with hn | hn
      · exact hn
      · exact absurd hn.1 hm
    · exact sp.2.2.1 _ (by omega) (by omega)
  rw [refGoodB, decide_eq_true hall, Bool.and_true]

end Go.Proofs.YtejpjclbeogajaaDoor

/-
  The document's tokens: numbers.
-/
namespace Go.Proofs.YtejpjclbeogajaaDoor
open Go.RowKit
set_option linter.unusedVariables false
set_option linter.unusedSimpArgs false

set_option maxHeartbeats 4000000 in
set_option maxRecDepth 100000 in
theorem one_num (s sg : ByteArray) (i : Nat) (w : World) (hs : s.size ≤ 100000) (hi : i < s.size) (hl : isLetter (bt s i) = false) (hn : numStart s i = true) :
    Calls Tryd.prog 42 #[.string s, .string sg, .int .i64 (i : Int)] w (OneNumPost w s i) := by
  have hiI : (i : Int) < (s.size : Int) := by omega
  have hi0 : (0 : Int) ≤ (i : Int) := by omega
  have hbi := bt_in s i hi
  have hcl := fun (W : World) => refLetter_calls (bt s i) W (bt_bd s i).1 (bt_bd s i).2
  have hcd := fun (W : World) => refDigit_calls (bt s i) W (bt_bd s i).1 (bt_bd s i).2
  have hca := fun (W : World) => refAt_calls s ((i : Int) + 1) (by omega) hs W
  have ej : ((i : Int) + 1).toNat = i + 1 := by omega
  rw [ej] at hca
  have hce := fun (W : World) => refDigit_calls (bt s (i + 1)) W (bt_bd s (i + 1)).1 (bt_bd s (i + 1)).2
  rw [hl] at hcl
  have HNS := Lib.hid hn
  have hnd : numStart s i = (isDigit (bt s i) || (decide (bt s i = 45) && isDigit (bt s (i + 1)))) := rfl
  obtain ⟨c, hc⟩ : ∃ c, c = bt s i := ⟨_, rfl⟩
  rw [← hc] at hcl hcd hnd hbi
  have HN := Lib.hid (hnd.symm.trans hn)
  clear hc hnd ej hl hn
  go_enter Tryd.func42, Tryd.ntmps42
  go_wp2_with fail
  refine (hcl _).mono ?_
  rintro e w' ⟨rfl, rfl⟩
  clear hcl
  cases hdg : isDigit c with
  | true =>
    rw [hdg] at hcd
    clear hdg HN hca hce
    go_wp2_with fail
    refine (hcd _).mono ?_
    rintro e w' ⟨rfl, rfl⟩
    clear hcd
    go_wp2_with fail
    go_loop [10] (fun v10 => ∃ k : Nat, i + 1 ≤ k ∧ k ≤ s.size ∧ v10 = .int .i64 (k : Int) ∧ Hid (∀ x, i + 1 ≤ x → x < k → isDigit (bt s x) = true)) (fun v10 => s.size - (intOf v10).toNat)
    case atStart => exact ⟨i + 1, Nat.le_refl _, by omega, by go_num, fun x h1 h2 => by omega⟩
    case round =>
      obtain ⟨k, hik, hks, rfl, hall⟩ := hrel
      have hca := fun (W : World) => refAt_calls s (k : Int) (by omega) hs W
      rw [at_nat] at hca
      have hcd := fun (W : World) => refDigit_calls (bt s k) W (bt_bd s k).1 (bt_bd s k).2
      have hcl := fun (W : World) => refLetter_calls (bt s k) W (bt_bd s k).1 (bt_bd s k).2
      have hltk : isDigit (bt s k) = true → k < s.size := fun h => by
        by_cases hz : k < s.size
        · exact hz
        · rw [bt_out s k hz] at h; simp [isDigit] at h
      have hkI : (k : Int) ≤ (s.size : Int) := by omega
      have hikI : (i : Int) ≤ (k : Int) := by omega
      cases hdk : isDigit (bt s k) with
      | true =>
        rw [hdk] at hcd
        have HN := Lib.hid hdk
        have hkl := hltk hdk
        clear hdk hltk hcl
        go_wp2_with fail
        refine (hca _).mono ?_
        rintro e w' ⟨rfl, rfl⟩
        go_wp2_with fail
        refine (hcd _).mono ?_
        rintro e w' ⟨rfl, rfl⟩
        go_wp2_with fail
        go_round
        case rel =>
          refine ⟨k + 1, by omega, by omega, by go_num, fun x h1 h2 => ?_⟩
          by_cases e : x = k
          · rw [e]; exact HN.out
          · exact hall.out x h1 (by omega)
        case measure => simp [intOf]; omega
      | false =>
        rw [hdk] at hcd
        have hse : spanEnd s isDigit (i + 1) = k := spanEnd_eq s isDigit (i + 1) k hik hks hall.out (.inr hdk)
        have HSE := Lib.hid hse
        have hTz : (s.extract i k).size ≤ 100000 := by rw [piece_size _ _ _ hks]; omega
        have hcg := fun (W : World) => refGood_calls (s.extract i k) W hTz
        have hrun := refGood_run s i hi HNS.out
        rw [hse] at hrun
        rw [hrun] at hcg
        obtain ⟨T, hT⟩ : ∃ T, T = s.extract i k := ⟨_, rfl⟩
        rw [← hT] at hcg
        have hTe : s.extract i k = T := hT.symm
        have HTE := Lib.hid hTe
        clear hdk hltk hse hrun hT
        cases hg : goodB T with
        | false =>
          rw [hg] at hcg
          have HG := Lib.hid hg
          clear hg hcl
          go_wp2_with fail
          refine (hca _).mono ?_
          rintro e w' ⟨rfl, rfl⟩
          go_wp2_with fail
          refine (hcd _).mono ?_
          rintro e w' ⟨rfl, rfl⟩
          go_wp2_with fail
          refine (hcg _).mono ?_
          rintro e w' ⟨rfl, rfl⟩
          go_wp2_with fail
          refine bodyPost_ret (v := oneV 2 T i k false) (by simp [results, Tryd.results42, go_sem, oneV, *]) rfl ?_
          unfold OneNumPost
          rw [HSE.out, HTE.out]
          refine ifPost_no (fun h => by rw [HG.out] at h; cases h.1) ?_
          exact ⟨_, _, _, rfl, by (repeat' (first | (with_reducible exact Below.refl _ _) | (with_reducible assumption) | (with_reducible refine Below.alloc ?_ ?_ _) | (with_reducible refine Below.drew ?_) | (with_reducible refine Below.setCell ?_ ?_ _) | (with_reducible refine Below.trans ?_ (Below.mono (by assumption) ?_)) | go_size))⟩
        | true =>
          rw [hg] at hcg
          have HG := Lib.hid hg
          clear hg
          cases hle : isLetter (bt s k) with
          | true =>
            rw [hle] at hcl
            have HLE := Lib.hid hle
            clear hle
            go_wp2_with fail
            refine (hca _).mono ?_
            rintro e w' ⟨rfl, rfl⟩
            go_wp2_with fail
            refine (hcd _).mono ?_
            rintro e w' ⟨rfl, rfl⟩
            go_wp2_with fail
            refine (hcg _).mono ?_
            rintro e w' ⟨rfl, rfl⟩
            go_wp2_with fail
            refine (hca _).mono ?_
            rintro e w' ⟨rfl, rfl⟩
            go_wp2_with fail
            refine (hcl _).mono ?_
            rintro e w' ⟨rfl, rfl⟩
            go_wp2_with fail
            refine bodyPost_ret (v := oneV 2 T i k false) (by simp [results, Tryd.results42, go_sem, oneV, *]) rfl ?_
            unfold OneNumPost
            rw [HSE.out, HTE.out]
            refine ifPost_no (fun h => by rw [HLE.out] at h; cases h.2) ?_
            exact ⟨_, _, _, rfl, by (repeat' (first | (with_reducible exact Below.refl _ _) | (with_reducible assumption) | (with_reducible refine Below.alloc ?_ ?_ _) | (with_reducible refine Below.drew ?_) | (with_reducible refine Below.setCell ?_ ?_ _) | (with_reducible refine Below.trans ?_ (Below.mono (by assumption) ?_)) | go_size))⟩
          | false =>
            rw [hle] at hcl
            have HLE := Lib.hid hle
            clear hle
            go_wp2_with fail
            refine (hca _).mono ?_
            rintro e w' ⟨rfl, rfl⟩
            go_wp2_with fail
            refine (hcd _).mono ?_
            rintro e w' ⟨rfl, rfl⟩
            go_wp2_with fail
            refine (hcg _).mono ?_
            rintro e w' ⟨rfl, rfl⟩
            go_wp2_with fail
            refine (hca _).mono ?_
            rintro e w' ⟨rfl, rfl⟩
            go_wp2_with fail
            refine (hcl _).mono ?_
            rintro e w' ⟨rfl, rfl⟩
            go_wp2_with fail
            refine bodyPost_ret (v := oneV 2 T i k true) (by simp [results, Tryd.results42, go_sem, oneV, *]) rfl ?_
            unfold OneNumPost
            rw [HSE.out, HTE.out]
            refine ifPost_yes ⟨HG.out, HLE.out⟩ ?_
            exact ⟨rfl, by (repeat' (first | (with_reducible exact Below.refl _ _) | (with_reducible assumption) | (with_reducible refine Below.alloc ?_ ?_ _) | (with_reducible refine Below.drew ?_) | (with_reducible refine Below.setCell ?_ ?_ _) | (with_reducible refine Below.trans ?_ (Below.mono (by assumption) ?_)) | go_size))⟩
  | false =>
    rw [hdg] at hcd
    have h2 := HN.out
    rw [hdg, Bool.false_or, Bool.and_eq_true, decide_eq_true_eq] at h2
    have b45 : (c == 45) = true := by rw [h2.1]; rfl
    rw [h2.2] at hce
    clear hdg HN h2
    go_wp2_with fail
    refine (hcd _).mono ?_
    rintro e w' ⟨rfl, rfl⟩
    go_wp2_with fail
    refine (hca _).mono ?_
    rintro e w' ⟨rfl, rfl⟩
    go_wp2_with fail
    refine (hce _).mono ?_
    rintro e w' ⟨rfl, rfl⟩
    clear hcd hca hce b45
    go_wp2_with fail
    go_loop [10] (fun v10 => ∃ k : Nat, i + 1 ≤ k ∧ k ≤ s.size ∧ v10 = .int .i64 (k : Int) ∧ Hid (∀ x, i + 1 ≤ x → x < k → isDigit (bt s x) = true)) (fun v10 => s.size - (intOf v10).toNat)
    case atStart => exact ⟨i + 1, Nat.le_refl _, by omega, by go_num, fun x h1 h2 => by omega⟩
    case round =>
      obtain ⟨k, hik, hks, rfl, hall⟩ := hrel
      have hca := fun (W : World) => refAt_calls s (k : Int) (by omega) hs W
      rw [at_nat] at hca
      have hcd := fun (W : World) => refDigit_calls (bt s k) W (bt_bd s k).1 (bt_bd s k).2
      have hcl := fun (W : World) => refLetter_calls (bt s k) W (bt_bd s k).1 (bt_bd s k).2
      have hltk : isDigit (bt s k) = true → k < s.size := fun h => by
        by_cases hz : k < s.size
        · exact hz
        · rw [bt_out s k hz] at h; simp [isDigit] at h
      have hkI : (k : Int) ≤ (s.size : Int) := by omega
      have hikI : (i : Int) ≤ (k : Int) := by omega
      cases hdk : isDigit (bt s k) with
      | true =>
        rw [hdk] at hcd
        have HN := Lib.hid hdk
        have hkl := hltk hdk
        clear hdk hltk hcl
        go_wp2_with fail
        refine (hca _).mono ?_
        rintro e w' ⟨rfl, rfl⟩
        go_wp2_with fail
        refine (hcd _).mono ?_
        rintro e w' ⟨rfl, rfl⟩
        go_wp2_with fail
        go_round
        case rel =>
          refine ⟨k + 1, by omega, by omega, by go_num, fun x h1 h2 => ?_⟩
          by_cases e : x = k
          · rw [e]; exact HN.out
          · exact hall.out x h1 (by omega)
        case measure => simp [intOf]; omega
      | false =>
        rw [hdk] at hcd
        have hse : spanEnd s isDigit (i + 1) = k := spanEnd_eq s isDigit (i + 1) k hik hks hall.out (.inr hdk)
        have HSE := Lib.hid hse
        have hTz : (s.extract i k).size ≤ 100000 := by rw [piece_size _ _ _ hks]; omega
        have hcg := fun (W : World) => refGood_calls (s.extract i k) W hTz
        have hrun := refGood_run s i hi HNS.out
        rw [hse] at hrun
        rw [hrun] at hcg
        obtain ⟨T, hT⟩ : ∃ T, T = s.extract i k := ⟨_, rfl⟩
        rw [← hT] at hcg
        have hTe : s.extract i k = T := hT.symm
        have HTE := Lib.hid hTe
        clear hdk hltk hse hrun hT
        cases hg : goodB T with
        | false =>
          rw [hg] at hcg
          have HG := Lib.hid hg
          clear hg hcl
          go_wp2_with fail
          refine (hca _).mono ?_
          rintro e w' ⟨rfl, rfl⟩
          go_wp2_with fail
          refine (hcd _).mono ?_
          rintro e w' ⟨rfl, rfl⟩
          go_wp2_with fail
          refine (hcg _).mono ?_
          rintro e w' ⟨rfl, rfl⟩
          go_wp2_with fail
          refine bodyPost_ret (v := oneV 2 T i k false) (by simp [results, Tryd.results42, go_sem, oneV, *]) rfl ?_
          unfold OneNumPost
          rw [HSE.out, HTE.out]
          refine ifPost_no (fun h => by rw [HG.out] at h; cases h.1) ?_
          exact ⟨_, _, _, rfl, by (repeat' (first | (with_reducible exact Below.refl _ _) | (with_reducible assumption) | (with_reducible refine Below.alloc ?_ ?_ _) | (with_reducible refine Below.drew ?_) | (with_reducible refine Below.setCell ?_ ?_ _) | (with_reducible refine Below.trans ?_ (Below.mono (by assumption) ?_)) | go_size))⟩
        | true =>
          rw [hg] at hcg
          have HG := Lib.hid hg
          clear hg
          cases hle : isLetter (bt s k) with
          | true =>
            rw [hle] at hcl
            have HLE := Lib.hid hle
            clear hle
            go_wp2_with fail
            refine (hca _).mono ?_
            rintro e w' ⟨rfl, rfl⟩
            go_wp2_with fail
            refine (hcd _).mono ?_
            rintro e w' ⟨rfl, rfl⟩
            go_wp2_with fail
            refine (hcg _).mono ?_
            rintro e w' ⟨rfl, rfl⟩
            go_wp2_with fail
            refine (hca _).mono ?_
            rintro e w' ⟨rfl, rfl⟩
            go_wp2_with fail
            refine (hcl _).mono ?_
            rintro e w' ⟨rfl, rfl⟩
            go_wp2_with fail
            refine bodyPost_ret (v := oneV 2 T i k false) (by simp [results, Tryd.results42, go_sem, oneV, *]) rfl ?_
            unfold OneNumPost
            rw [HSE.out, HTE.out]
            refine ifPost_no (fun h => by rw [HLE.out] at h; cases h.2) ?_
            exact ⟨_, _, _, rfl, by (repeat' (first | (with_reducible exact Below.refl _ _) | (with_reducible assumption) | (with_reducible refine Below.alloc ?_ ?_ _) | (with_reducible refine Below.drew ?_) | (with_reducible refine Below.setCell ?_ ?_ _) | (with_reducible refine Below.trans ?_ (Below.mono (by assumption) ?_)) | go_size))⟩
          | false =>
            rw [hle] at hcl
            have HLE := Lib.hid hle
            clear hle
            go_wp2_with fail
            refine (hca _).mono ?_
            rintro e w' ⟨rfl, rfl⟩
            go_wp2_with fail
            refine (hcd _).mono ?_
            rintro e w' ⟨rfl, rfl⟩
            go_wp2_with fail
            refine (hcg _).mono ?_
            rintro e w' ⟨rfl, rfl⟩
            go_wp2_with fail
            refine (hca _).mono ?_
            rintro e w' ⟨rfl, rfl⟩
            go_wp2_with fail
            refine (hcl _).mono ?_
            rintro e w' ⟨rfl, rfl⟩
            go_wp2_with fail
            refine bodyPost_ret (v := oneV 2 T i k true) (by simp [results, Tryd.results42, go_sem, oneV, *]) rfl ?_
            unfold OneNumPost
            rw [HSE.out, HTE.out]
            refine ifPost_yes ⟨HG.out, HLE.out⟩ ?_
            exact ⟨rfl, by (repeat' (first | (with_reducible exact Below.refl _ _) | (with_reducible assumption) | (with_reducible refine Below.alloc ?_ ?_ _) | (with_reducible refine Below.drew ?_) | (with_reducible refine Below.setCell ?_ ?_ _) | (with_reducible refine Below.trans ?_ (Below.mono (by assumption) ?_)) | go_size))⟩

end Go.Proofs.YtejpjclbeogajaaDoor

/-
  The document's tokens: quoted texts, signs, and none.
-/
namespace Go.Proofs.YtejpjclbeogajaaDoor
open Go.RowKit
set_option linter.unusedVariables false
set_option linter.unusedSimpArgs false

def OneQuotePost (w : World) (s : ByteArray) (i : Nat) (e : Ending) (w' : World) : Prop :=
  IfPost (bt s (spanEnd s inQuote (i + 1)) = 34 ∧ utf8Bad (s.extract (i + 1) (spanEnd s inQuote (i + 1))) < 0) (OneOk w i 3 (s.extract (i + 1) (spanEnd s inQuote (i + 1))) (spanEnd s inQuote (i + 1) + 1) e w') (OneNo w i e w')


set_option maxHeartbeats 4000000 in
set_option maxRecDepth 100000 in
theorem one_quote (s sg : ByteArray) (i : Nat) (w : World) (hT : Tabs w) (hs : s.size ≤ 100000) (hi : i < s.size) (hc : bt s i = 34) :
    Calls Tryd.prog 42 #[.string s, .string sg, .int .i64 (i : Int)] w (OneQuotePost w s i) := by
  have hiI : (i : Int) < (s.size : Int) := by omega
  have hi0 : (0 : Int) ≤ (i : Int) := by omega
  have hbi := bt_in s i hi
  have hcl := fun (W : World) => refLetter_calls (bt s i) W (bt_bd s i).1 (bt_bd s i).2
  have hcd := fun (W : World) => refDigit_calls (bt s i) W (bt_bd s i).1 (bt_bd s i).2
  rw [hc] at hbi hcl hcd
  rw [show isLetter 34 = false from rfl] at hcl
  rw [show isDigit 34 = false from rfl] at hcd
  have HT := Lib.hid hT
  clear hc hT
  go_enter Tryd.func42, Tryd.ntmps42
  go_wp2_with fail
  refine (hcl _).mono ?_
  rintro e w' ⟨rfl, rfl⟩
  go_wp2_with fail
  refine (hcd _).mono ?_
  rintro e w' ⟨rfl, rfl⟩
  clear hcl hcd hbi
  go_wp2_with fail
  go_loop [10] (fun v10 => ∃ k : Nat, i + 1 ≤ k ∧ k ≤ s.size ∧ v10 = .int .i64 (k : Int) ∧ Hid (∀ x, i + 1 ≤ x → x < k → inQuote (bt s x) = true)) (fun v10 => s.size - (intOf v10).toNat)
  case atStart => exact ⟨i + 1, Nat.le_refl _, by omega, by go_num, fun x h1 h2 => by omega⟩
  case round =>
    obtain ⟨k, hik, hks, rfl, hall⟩ := hrel
    have hikI : (i : Int) + 1 ≤ (k : Int) := by omega
    by_cases hk : k < s.size
    · have hkI : (k : Int) < (s.size : Int) := by omega
      have hdk : decide ((k : Int) < (s.size : Int)) = true := decide_eq_true hkI
      have hbk := bt_in s k hk
      by_cases h1 : 32 ≤ bt s k
      · have d1 : decide ((32 : Int) ≤ ((s[k]'hk).toNat : Int)) = true := by rw [hbk]; exact decide_eq_true h1
        by_cases h34 : bt s k = 34
        · have d2 : (((s[k]'hk).toNat : Int) != 34) = false := by rw [hbk, h34]; rfl
          have hse : spanEnd s inQuote (i + 1) = k := spanEnd_eq s inQuote (i + 1) k hik hks hall.out (.inr (by rw [h34]; rfl))
          have HSE := Lib.hid hse
          have hca := fun (W : World) => refAt_calls s (k : Int) (by omega) hs W
          rw [at_nat, h34] at hca
          have H34 := Lib.hid h34
          have hTz : (s.extract (i + 1) k).size ≤ 100000 := by rw [piece_size _ _ _ hks]; omega
          obtain ⟨T, hT⟩ : ∃ T, T = s.extract (i + 1) k := ⟨_, rfl⟩
          rw [← hT] at hTz
          have hTe : s.extract (i + 1) k = T := hT.symm
          have HTE := Lib.hid hTe
          clear hse h34 hbk h1 hT
          go_wp2_with fail
          refine (hca _).mono ?_
          rintro e w' ⟨rfl, rfl⟩
          have kc := fun (w : World) => Lib.run_convert_string_bytes (P := Tryd.prog) w 9 22 5 T Tryd.underlying9 Tryd.underlying22 Tryd.underlying5
          go_wp2_with fail
          obtain ⟨W1, hW1⟩ : ∃ W1, W1 = (w.alloc (Obj.cells #[Value.int IntKind.i64 0, Value.string { data := #[] }, Value.int IntKind.i64 0] 103)).alloc (Obj.cells #[Value.int IntKind.i64 0, Value.string { data := #[] }, Value.int IntKind.i64 (i : Int)] 103) := ⟨_, rfl⟩
          have hz : W1.heap.size = w.heap.size + 1 + 1 := by rw [hW1]; simp
          have hB1 : Below w.heap.size w W1 := by rw [hW1]; (repeat' (first | (with_reducible exact Below.refl _ _) | (with_reducible assumption) | (with_reducible refine Below.alloc ?_ ?_ _) | (with_reducible refine Below.drew ?_) | (with_reducible refine Below.setCell ?_ ?_ _) | (with_reducible refine Below.trans ?_ (Below.mono (by assumption) ?_)) | go_size))
          have hF0 : W1.heap[w.heap.size]? = some (Obj.cells #[Value.int IntKind.i64 0, Value.string { data := #[] }, Value.int IntKind.i64 0] 103 (0, 0)) := by rw [hW1]; exact blk_alloc (blk_new _ _) _
          have hF1 : W1.heap[w.heap.size + 1]? = some (Obj.cells #[Value.int IntKind.i64 0, Value.string { data := #[] }, Value.int IntKind.i64 (i : Int)] 103 (0, 0)) := by
            rw [hW1]
            have := blk_new (w.alloc (Obj.cells #[Value.int IntKind.i64 0, Value.string { data := #[] }, Value.int IntKind.i64 0] 103)) (Obj.cells #[Value.int IntKind.i64 0, Value.string { data := #[] }, Value.int IntKind.i64 (i : Int)] 103)
            simpa using this
          rw [← hW1]
          clear hW1 kc
          have hB2 : Below w.heap.size w (Lib.bytesWorld W1 5 T) := hB1.trans ((bytes_below W1 5 T).mono hB1.size)
          have hcal := refText_calls W1.heap.size (grownCap W1 T.size 0 5) T hTz (grownCap_ge _ _ _ _) (Lib.bytesWorld W1 5 T) (HT.out.below hB2) (bytes_at W1 5 T)
          have hG0 := blk_below hF0 (bytes_below W1 5 T) (by omega)
          have hG1 := blk_below hF1 (bytes_below W1 5 T) (by omega)
          have hsz : w.heap.size + 1 + 1 ≤ (Lib.bytesWorld W1 5 T).heap.size := by have := (bytes_below W1 5 T).size; omega
          rw [hz] at hcal
          clear hz hB1 hF0 hF1
          generalize Lib.bytesWorld W1 5 T = W2 at *
          generalize grownCap W1 T.size 0 5 = cp at *
          obtain ⟨O, hO⟩ : ∃ O, O = w.heap.size := ⟨_, rfl⟩
          rw [← hO] at hcal hG0 hG1 hsz ⊢
          have hOw : w.heap.size ≤ O := by omega
          have HB2 := Lib.hid hB2
          clear hO hB2
          cases hu : decide (utf8Bad T < 0) with
          | true =>
            rw [hu] at hcal
            have HU := Lib.hid (of_decide_eq_true hu)
            clear hu
            refine hcal.mono ?_
            rintro e w3 ⟨rfl, hB3⟩
            have hH0 := blk_below hG0 hB3 (by omega)
            have hH1 := blk_below hG1 hB3 (by omega)
            have HB4 := Lib.hid (HB2.out.trans (hB3.mono HB2.out.size))
            have r0 : w3.cell? ⟨O + 1, 0, none⟩ = some (.int .i64 0) := by rw [blk_cell hH1]; rfl
            have r1 : w3.cell? ⟨O + 1, 1, none⟩ = some (.string ⟨#[]⟩) := by rw [blk_cell hH1]; rfl
            have r2 : w3.cell? ⟨O + 1, 2, none⟩ = some (.int .i64 (i : Int)) := by rw [blk_cell hH1]; rfl
            have s0 : w3.frozen? ⟨O + 1, 0, none⟩ = false := blk_frozen hH1 _
            have s1 : w3.frozen? ⟨O + 1, 1, none⟩ = false := blk_frozen hH1 _
            have s2 : w3.frozen? ⟨O + 1, 2, none⟩ = false := blk_frozen hH1 _
            have r3 : w3.cell? ⟨O, 0, none⟩ = some (.int .i64 0) := by rw [blk_cell hH0]; rfl
            have r4 : w3.cell? ⟨O, 1, none⟩ = some (.string ⟨#[]⟩) := by rw [blk_cell hH0]; rfl
            have r5 : w3.cell? ⟨O, 2, none⟩ = some (.int .i64 0) := by rw [blk_cell hH0]; rfl
            have s3 : w3.frozen? ⟨O, 0, none⟩ = false := blk_frozen hH0 _
            have s4 : w3.frozen? ⟨O, 1, none⟩ = false := blk_frozen hH0 _
            have s5 : w3.frozen? ⟨O, 2, none⟩ = false := blk_frozen hH0 _
            clear hH0 hH1 hG0 hG1 hB3 hcal
            go_wp2_with fail
            refine bodyPost_ret (v := oneV 3 T i (k + 1) true) (by simp [results, Tryd.results42, go_sem, oneV, *]) rfl ?_
            unfold OneQuotePost
            rw [HSE.out, HTE.out]
            refine ifPost_yes ⟨H34.out, HU.out⟩ ?_
            have hB4 := HB4.out
            exact ⟨rfl, by (repeat' (first | (with_reducible exact Below.refl _ _) | (with_reducible assumption) | (with_reducible refine Below.alloc ?_ ?_ _) | (with_reducible refine Below.drew ?_) | (with_reducible refine Below.setCell ?_ ?_ _) | (with_reducible refine Below.trans ?_ (Below.mono (by assumption) ?_)) | go_size))⟩
          | false =>
            rw [hu] at hcal
            have HU := Lib.hid (of_decide_eq_false hu)
            clear hu
            refine hcal.mono ?_
            rintro e w3 ⟨rfl, hB3⟩
            have hH0 := blk_below hG0 hB3 (by omega)
            have hH1 := blk_below hG1 hB3 (by omega)
            have HB4 := Lib.hid (HB2.out.trans (hB3.mono HB2.out.size))
            have r0 : w3.cell? ⟨O + 1, 0, none⟩ = some (.int .i64 0) := by rw [blk_cell hH1]; rfl
            have r1 : w3.cell? ⟨O + 1, 1, none⟩ = some (.string ⟨#[]⟩) := by rw [blk_cell hH1]; rfl
            have r2 : w3.cell? ⟨O + 1, 2, none⟩ = some (.int .i64 (i : Int)) := by rw [blk_cell hH1]; rfl
            have s0 : w3.frozen? ⟨O + 1, 0, none⟩ = false := blk_frozen hH1 _
            have s1 : w3.frozen? ⟨O + 1, 1, none⟩ = false := blk_frozen hH1 _
            have s2 : w3.frozen? ⟨O + 1, 2, none⟩ = false := blk_frozen hH1 _
            have r3 : w3.cell? ⟨O, 0, none⟩ = some (.int .i64 0) := by rw [blk_cell hH0]; rfl
            have r4 : w3.cell? ⟨O, 1, none⟩ = some (.string ⟨#[]⟩) := by rw [blk_cell hH0]; rfl
            have r5 : w3.cell? ⟨O, 2, none⟩ = some (.int .i64 0) := by rw [blk_cell hH0]; rfl
            have s3 : w3.frozen? ⟨O, 0, none⟩ = false := blk_frozen hH0 _
            have s4 : w3.frozen? ⟨O, 1, none⟩ = false := blk_frozen hH0 _
            have s5 : w3.frozen? ⟨O, 2, none⟩ = false := blk_frozen hH0 _
            clear hH0 hH1 hG0 hG1 hB3 hcal
            go_wp2_with fail
            refine bodyPost_ret (v := oneV 0 ⟨#[]⟩ i k false) (by simp [results, Tryd.results42, go_sem, oneV, *]) rfl ?_
            unfold OneQuotePost
            rw [HSE.out, HTE.out]
            refine ifPost_no (fun h => by have h1 := HU.out; have h2 := h.2; omega) ?_
            have hB4 := HB4.out
            exact ⟨_, _, _, rfl, by (repeat' (first | (with_reducible exact Below.refl _ _) | (with_reducible assumption) | (with_reducible refine Below.alloc ?_ ?_ _) | (with_reducible refine Below.drew ?_) | (with_reducible refine Below.setCell ?_ ?_ _) | (with_reducible refine Below.trans ?_ (Below.mono (by assumption) ?_)) | go_size))⟩
        · have d2 : (((s[k]'hk).toNat : Int) != 34) = true := by rw [hbk, bne_iff_ne]; exact h34
          by_cases h92 : bt s k = 92
          · have d3 : (((s[k]'hk).toNat : Int) != 92) = false := by rw [hbk, h92]; rfl
            have hq : inQuote (bt s k) = false := by rw [h92]; rfl
            clear hbk h1 h92
            have hse : spanEnd s inQuote (i + 1) = k := spanEnd_eq s inQuote (i + 1) k hik hks hall.out (.inr hq)
            have HSE := Lib.hid hse
            have H34 := Lib.hid h34
            have b34 : (bt s k != 34) = true := by rw [bne_iff_ne]; exact h34
            have hca := fun (W : World) => refAt_calls s (k : Int) (by omega) hs W
            rw [at_nat] at hca
            clear hse h34
            go_wp2_with fail
            refine (hca _).mono ?_
            rintro e w' ⟨rfl, rfl⟩
            go_wp2_with fail
            refine bodyPost_ret (v := oneV 0 ⟨#[]⟩ i k false) (by simp [results, Tryd.results42, go_sem, oneV, *]) rfl ?_
            unfold OneQuotePost
            rw [HSE.out]
            refine ifPost_no (fun h => H34.out h.1) ?_
            exact ⟨_, _, _, rfl, by (repeat' (first | (with_reducible exact Below.refl _ _) | (with_reducible assumption) | (with_reducible refine Below.alloc ?_ ?_ _) | (with_reducible refine Below.drew ?_) | (with_reducible refine Below.setCell ?_ ?_ _) | (with_reducible refine Below.trans ?_ (Below.mono (by assumption) ?_)) | go_size))⟩
          · have d3 : (((s[k]'hk).toNat : Int) != 92) = true := by rw [hbk, bne_iff_ne]; exact h92
            by_cases h127 : bt s k = 127
            · have d4 : (((s[k]'hk).toNat : Int) != 127) = false := by rw [hbk, h127]; rfl
              have hq : inQuote (bt s k) = false := by rw [h127]; rfl
              clear hbk h1 h92 h127
              have hse : spanEnd s inQuote (i + 1) = k := spanEnd_eq s inQuote (i + 1) k hik hks hall.out (.inr hq)
              have HSE := Lib.hid hse
              have H34 := Lib.hid h34
              have b34 : (bt s k != 34) = true := by rw [bne_iff_ne]; exact h34
              have hca := fun (W : World) => refAt_calls s (k : Int) (by omega) hs W
              rw [at_nat] at hca
              clear hse h34
              go_wp2_with fail
              refine (hca _).mono ?_
              rintro e w' ⟨rfl, rfl⟩
              go_wp2_with fail
              refine bodyPost_ret (v := oneV 0 ⟨#[]⟩ i k false) (by simp [results, Tryd.results42, go_sem, oneV, *]) rfl ?_
              unfold OneQuotePost
              rw [HSE.out]
              refine ifPost_no (fun h => H34.out h.1) ?_
              exact ⟨_, _, _, rfl, by (repeat' (first | (with_reducible exact Below.refl _ _) | (with_reducible assumption) | (with_reducible refine Below.alloc ?_ ?_ _) | (with_reducible refine Below.drew ?_) | (with_reducible refine Below.setCell ?_ ?_ _) | (with_reducible refine Below.trans ?_ (Below.mono (by assumption) ?_)) | go_size))⟩
            · have d4 : (((s[k]'hk).toNat : Int) != 127) = true := by rw [hbk, bne_iff_ne]; exact h127
              have HQ := Lib.hid (show inQuote (bt s k) = true by simp [inQuote, h1, h34, h92, h127])
              clear hbk h1 h34 h92 h127
              go_wp2_with fail
              go_round
              case rel =>
                refine ⟨k + 1, by omega, by omega, by go_num, fun x h1 h2 => ?_⟩
                by_cases e : x = k
                · rw [e]; exact HQ.out
                · exact hall.out x h1 (by omega)
              case measure => simp [intOf]; omega
      · have d1 : decide ((32 : Int) ≤ ((s[k]'hk).toNat : Int)) = false := by rw [hbk]; exact decide_eq_false h1
        have h34 : bt s k ≠ 34 := by omega
        have hq : inQuote (bt s k) = false := by simp [inQuote, h1]
        clear hbk h1
        have hse : spanEnd s inQuote (i + 1) = k := spanEnd_eq s inQuote (i + 1) k hik hks hall.out (.inr hq)
        have HSE := Lib.hid hse
        have H34 := Lib.hid h34
        have b34 : (bt s k != 34) = true := by rw [bne_iff_ne]; exact h34
        have hca := fun (W : World) => refAt_calls s (k : Int) (by omega) hs W
        rw [at_nat] at hca
        clear hse h34
        go_wp2_with fail
        refine (hca _).mono ?_
        rintro e w' ⟨rfl, rfl⟩
        go_wp2_with fail
        refine bodyPost_ret (v := oneV 0 ⟨#[]⟩ i k false) (by simp [results, Tryd.results42, go_sem, oneV, *]) rfl ?_
        unfold OneQuotePost
        rw [HSE.out]
        refine ifPost_no (fun h => H34.out h.1) ?_
        exact ⟨_, _, _, rfl, by (repeat' (first | (with_reducible exact Below.refl _ _) | (with_reducible assumption) | (with_reducible refine Below.alloc ?_ ?_ _) | (with_reducible refine Below.drew ?_) | (with_reducible refine Below.setCell ?_ ?_ _) | (with_reducible refine Below.trans ?_ (Below.mono (by assumption) ?_)) | go_size))⟩
    · have hdk : decide ((k : Int) < (s.size : Int)) = false := decide_eq_false (by omega)
      have hke : k = s.size := by omega
      have h34 : bt s k ≠ 34 := by rw [bt_out s k hk]; decide
      have HKE := Lib.hid hke
      clear hke
      have hse : spanEnd s inQuote (i + 1) = k := spanEnd_eq s inQuote (i + 1) k hik hks hall.out (.inl HKE.out)
      have HSE := Lib.hid hse
      have H34 := Lib.hid h34
      have b34 : (bt s k != 34) = true := by rw [bne_iff_ne]; exact h34
      have hca := fun (W : World) => refAt_calls s (k : Int) (by omega) hs W
      rw [at_nat] at hca
      clear hse h34
      go_wp2_with fail
      refine (hca _).mono ?_
      rintro e w' ⟨rfl, rfl⟩
      go_wp2_with fail
      refine bodyPost_ret (v := oneV 0 ⟨#[]⟩ i k false) (by simp [results, Tryd.results42, go_sem, oneV, *]) rfl ?_
      unfold OneQuotePost
      rw [HSE.out]
      refine ifPost_no (fun h => H34.out h.1) ?_
      exact ⟨_, _, _, rfl, by (repeat' (first | (with_reducible exact Below.refl _ _) | (with_reducible assumption) | (with_reducible refine Below.alloc ?_ ?_ _) | (with_reducible refine Below.drew ?_) | (with_reducible refine Below.setCell ?_ ?_ _) | (with_reducible refine Below.trans ?_ (Below.mono (by assumption) ?_)) | go_size))⟩

end Go.Proofs.YtejpjclbeogajaaDoor

/-
  The document's tokens: signs, none, the end; the token at a place, whole.
-/
namespace Go.Proofs.YtejpjclbeogajaaDoor
open Go.RowKit
set_option linter.unusedVariables false
set_option linter.unusedSimpArgs false

def OneSignPost (w : World) (s sg : ByteArray) (i : Nat) (e : Ending) (w' : World) : Prop :=
  IfPost (hasSign sg (bt s i) = true) (OneOk w i 4 (s.extract i (i + 1)) (i + 1) e w') (OneNo w i e w')


set_option maxHeartbeats 4000000 in
set_option maxRecDepth 100000 in
theorem one_sign (s sg : ByteArray) (i : Nat) (w : World) (hs : s.size ≤ 100000) (hsg : sg.size ≤ 100000) (hi : i < s.size) (hl : isLetter (bt s i) = false) (hn : numStart s i = false) (hc34 : ¬ bt s i = 34) :
    Calls Tryd.prog 42 #[.string s, .string sg, .int .i64 (i : Int)] w (OneSignPost w s sg i) := by
  have hiI : (i : Int) < (s.size : Int) := by omega
  have hi0 : (0 : Int) ≤ (i : Int) := by omega
  have hbi := bt_in s i hi
  have hcl := fun (W : World) => refLetter_calls (bt s i) W (bt_bd s i).1 (bt_bd s i).2
  have hcd := fun (W : World) => refDigit_calls (bt s i) W (bt_bd s i).1 (bt_bd s i).2
  have hch := fun (W : World) => refHas_calls sg (bt s i) hsg W
  have hca := fun (W : World) => refAt_calls s ((i : Int) + 1) (by omega) hs W
  have ej : ((i : Int) + 1).toNat = i + 1 := by omega
  rw [ej] at hca
  have hce := fun (W : World) => refDigit_calls (bt s (i + 1)) W (bt_bd s (i + 1)).1 (bt_bd s (i + 1)).2
  rw [numStart, Bool.or_eq_false_iff] at hn
  obtain ⟨hn1, hn2⟩ := hn
  rw [hl] at hcl
  rw [hn1] at hcd
  obtain ⟨c, hc⟩ : ∃ c, c = bt s i := ⟨_, rfl⟩
  rw [← hc] at hcl hcd hch hbi hc34 hn2
  have HC := Lib.hid hc
  clear hc ej hl hn1
  by_cases h45 : c = 45
  · have b45 : (c == 45) = true := by rw [h45]; rfl
    rw [decide_eq_true h45, Bool.true_and] at hn2
    rw [hn2] at hce
    clear h45 hn2
    go_enter Tryd.func42, Tryd.ntmps42
    go_wp2_with fail
    refine (hcl _).mono ?_
    rintro e w' ⟨rfl, rfl⟩
    go_wp2_with fail
    refine (hcd _).mono ?_
    rintro e w' ⟨rfl, rfl⟩
    go_wp2_with fail
    refine (hca _).mono ?_
    rintro e w' ⟨rfl, rfl⟩
    go_wp2_with fail
    refine (hce _).mono ?_
    rintro e w' ⟨rfl, rfl⟩
    clear hcl hcd hca hce
    have b34 : (c == 34) = false := by rw [beq_eq_false_iff_ne]; exact hc34
    clear hc34
    cases hh : hasSign sg c with
    | true =>
      rw [hh] at hch
      have HH := Lib.hid hh
      clear hh
      go_wp2_with fail
      refine (hch _).mono ?_
      rintro e w' ⟨rfl, rfl⟩
      go_wp2_with fail
      refine bodyPost_ret (v := oneV 4 (s.extract i (i + 1)) i (i + 1) true) (by simp [results, Tryd.results42, go_sem, oneV, *]) rfl ?_
      unfold OneSignPost
      rw [← HC.out]
      refine ifPost_yes HH.out ?_
      exact ⟨rfl, by (repeat' (first | (with_reducible exact Below.refl _ _) | (with_reducible assumption) | (with_reducible refine Below.alloc ?_ ?_ _) | (with_reducible refine Below.drew ?_) | (with_reducible refine Below.setCell ?_ ?_ _) | (with_reducible refine Below.trans ?_ (Below.mono (by assumption) ?_)) | go_size))⟩
    | false =>
      rw [hh] at hch
      have HH := Lib.hid hh
      clear hh
      go_wp2_with fail
      refine (hch _).mono ?_
      rintro e w' ⟨rfl, rfl⟩
      go_wp2_with fail
      refine bodyPost_ret (v := oneV 0 ⟨#[]⟩ i i false) (by simp [results, Tryd.results42, go_sem, oneV, *]) rfl ?_
      unfold OneSignPost
      rw [← HC.out]
      refine ifPost_no (by rw [HH.out]; simp) ?_
      exact ⟨_, _, _, rfl, by (repeat' (first | (with_reducible exact Below.refl _ _) | (with_reducible assumption) | (with_reducible refine Below.alloc ?_ ?_ _) | (with_reducible refine Below.drew ?_) | (with_reducible refine Below.setCell ?_ ?_ _) | (with_reducible refine Below.trans ?_ (Below.mono (by assumption) ?_)) | go_size))⟩
  · have b45 : (c == 45) = false := by rw [beq_eq_false_iff_ne]; exact h45
    clear h45 hn2 hca hce
    go_enter Tryd.func42, Tryd.ntmps42
    go_wp2_with fail
    refine (hcl _).mono ?_
    rintro e w' ⟨rfl, rfl⟩
    go_wp2_with fail
    refine (hcd _).mono ?_
    rintro e w' ⟨rfl, rfl⟩
    clear hcl hcd
    have b34 : (c == 34) = false := by rw [beq_eq_false_iff_ne]; exact hc34
    clear hc34
    cases hh : hasSign sg c with
    | true =>
      rw [hh] at hch
      have HH := Lib.hid hh
      clear hh
      go_wp2_with fail
      refine (hch _).mono ?_
      rintro e w' ⟨rfl, rfl⟩
      go_wp2_with fail
      refine bodyPost_ret (v := oneV 4 (s.extract i (i + 1)) i (i + 1) true) (by simp [results, Tryd.results42, go_sem, oneV, *]) rfl ?_
      unfold OneSignPost
      rw [← HC.out]
      refine ifPost_yes HH.out ?_
      exact ⟨rfl, by (repeat' (first | (with_reducible exact Below.refl _ _) | (with_reducible assumption) | (with_reducible refine Below.alloc ?_ ?_ _) | (with_reducible refine Below.drew ?_) | (with_reducible refine Below.setCell ?_ ?_ _) | (with_reducible refine Below.trans ?_ (Below.mono (by assumption) ?_)) | go_size))⟩
    | false =>
      rw [hh] at hch
      have HH := Lib.hid hh
      clear hh
      go_wp2_with fail
      refine (hch _).mono ?_
      rintro e w' ⟨rfl, rfl⟩
      go_wp2_with fail
      refine bodyPost_ret (v := oneV 0 ⟨#[]⟩ i i false) (by simp [results, Tryd.results42, go_sem, oneV, *]) rfl ?_
      unfold OneSignPost
      rw [← HC.out]
      refine ifPost_no (by rw [HH.out]; simp) ?_
      exact ⟨_, _, _, rfl, by (repeat' (first | (with_reducible exact Below.refl _ _) | (with_reducible assumption) | (with_reducible refine Below.alloc ?_ ?_ _) | (with_reducible refine Below.drew ?_) | (with_reducible refine Below.setCell ?_ ?_ _) | (with_reducible refine Below.trans ?_ (Below.mono (by assumption) ?_)) | go_size))⟩

set_option maxHeartbeats 1000000 in
set_option maxRecDepth 100000 in
theorem one_end (s sg : ByteArray) (i : Nat) (w : World) (hs : s.size ≤ 100000) (hi : s.size ≤ i) (hi2 : i ≤ 100000) :
    Calls Tryd.prog 42 #[.string s, .string sg, .int .i64 (i : Int)] w (OneOk w i 0 ⟨#[]⟩ i) := by
  have hiI : (s.size : Int) ≤ (i : Int) := by omega
  go_enter Tryd.func42, Tryd.ntmps42
  go_wp2_with fail
  refine bodyPost_ret (v := oneV 0 ⟨#[]⟩ i i true) (by simp [results, Tryd.results42, go_sem, oneV, *]) rfl ?_
  exact ⟨rfl, by (repeat' (first | (with_reducible exact Below.refl _ _) | (with_reducible assumption) | (with_reducible refine Below.alloc ?_ ?_ _) | (with_reducible refine Below.drew ?_) | (with_reducible refine Below.setCell ?_ ?_ _) | (with_reducible refine Below.trans ?_ (Below.mono (by assumption) ?_)) | go_size))⟩

/-- the token at a place -/
def OnePost (w : World) (s sg : ByteArray) (i : Nat) (e : Ending) (w' : World) : Prop :=
  match oneB s sg i with
  | some (k, t, x) => OneOk w i k t x e w'
  | none => OneNo w i e w'

theorem onePost_ite {w : World} {s sg : ByteArray} {i : Nat} {e : Ending} {w' : World} {c : Prop} [Decidable c] {k : Int} {t : ByteArray} {x : Nat} (ho : oneB s sg i = if c then some (k, t, x) else none) (h : IfPost c (OneOk w i k t x e w') (OneNo w i e w')) : OnePost w s sg i e w' := by
  unfold OnePost
  rw [ho]
  by_cases hc : c
  · rw [if_pos hc]; exact h.yes hc
  · rw [if_neg hc]; exact h.no hc

theorem onePost_some {w : World} {s sg : ByteArray} {i : Nat} {e : Ending} {w' : World} {k : Int} {t : ByteArray} {x : Nat} (ho : oneB s sg i = some (k, t, x)) (h : OneOk w i k t x e w') : OnePost w s sg i e w' := by
  unfold OnePost
  rw [ho]
  exact h

theorem one_calls (s sg : ByteArray) (i : Nat) (w : World) (hT : Tabs w) (hs : s.size ≤ 100000) (hsg : sg.size ≤ 100000) (hi : i ≤ s.size) :
    Calls Tryd.prog 42 #[.string s, .string sg, .int .i64 (i : Int)] w (OnePost w s sg i) := by
  by_cases h : i = s.size
  · exact (one_end s sg i w hs (by omega) (by omega)).mono fun e w' h2 => onePost_some (oneB_end s sg i h) h2
  · have hlt : i < s.size := by omega
    by_cases hl : isLetter (bt s i) = true
    · exact (one_name s sg i w hs hlt hl).mono fun e w' h2 => onePost_some (oneB_name s sg i hlt hl) h2
    · have hl' : isLetter (bt s i) = false := by simpa using hl
      by_cases hn : numStart s i = true
      · exact (one_num s sg i w hs hlt hl' hn).mono fun e w' h2 => onePost_ite (oneB_num s sg i hlt hl' hn) h2
      · have hn' : numStart s i = false := by simpa using hn
        by_cases hq : bt s i = 34
        · exact (one_quote s sg i w hT hs hlt hq).mono fun e w' h2 => onePost_ite (oneB_quote s sg i hlt hq) h2
        · exact (one_sign s sg i w hs hsg hlt hl' hn' hq).mono fun e w' h2 => onePost_ite (oneB_sign s sg i hlt hl' hn' hq) h2

end Go.Proofs.YtejpjclbeogajaaDoor
