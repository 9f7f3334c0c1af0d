/-
  The document's tokens: numbers.
-/
import Derived.Test.YtgoaiokpnifhfaaDoorRefOne
namespace Go.Proofs.YtgoaiokpnifhfaaDoor
open Go.RowKit
set_option linter.unusedVariables false
set_option linter.unusedSimpArgs false

set_option maxHeartbeats 4000000 in
set_option maxRecDepth 100000 in
theorem one_num (s sg : ByteArray) (i : Nat) (w : World) (hs : s.size ≤ 100000) (hi : i < s.size) (hl : isLetter (bt s i) = false) (hn : numStart s i = true) :
    Calls Tryd.prog 44 #[.string s, .string sg, .int .i64 (i : Int)] w (OneNumPost w s i) := by
  have hiI : (i : Int) < (s.size : Int) := by omega
  have hi0 : (0 : Int) ≤ (i : Int) := by omega
  have hbi := bt_in s i hi
  have hcl := fun (W : World) => refLetter_calls (bt s i) W (bt_bd s i).1 (bt_bd s i).2
  have hcd := fun (W : World) => refDigit_calls (bt s i) W (bt_bd s i).1 (bt_bd s i).2
  have hca := fun (W : World) => refAt_calls s ((i : Int) + 1) (by omega) hs W
  have ej : ((i : Int) + 1).toNat = i + 1 := by omega
  rw [ej] at hca
  have hce := fun (W : World) => refDigit_calls (bt s (i + 1)) W (bt_bd s (i + 1)).1 (bt_bd s (i + 1)).2
  rw [hl] at hcl
  have HNS := Lib.hid hn
  have hnd : numStart s i = (isDigit (bt s i) || (decide (bt s i = 45) && isDigit (bt s (i + 1)))) := rfl
  obtain ⟨c, hc⟩ : ∃ c, c = bt s i := ⟨_, rfl⟩
  rw [← hc] at hcl hcd hnd hbi
  have HN := Lib.hid (hnd.symm.trans hn)
  clear hc hnd ej hl hn
  go_enter Tryd.func44, Tryd.ntmps44
  go_wp2_with fail
  refine (hcl _).mono ?_
  rintro e w' ⟨rfl, rfl⟩
  clear hcl
  cases hdg : isDigit c with
  | true =>
    rw [hdg] at hcd
    clear hdg HN hca hce
    go_wp2_with fail
    refine (hcd _).mono ?_
    rintro e w' ⟨rfl, rfl⟩
    clear hcd
    go_wp2_with fail
    go_loop [10] (fun v10 => ∃ k : Nat, i + 1 ≤ k ∧ k ≤ s.size ∧ v10 = .int .i64 (k : Int) ∧ Hid (∀ x, i + 1 ≤ x → x < k → isDigit (bt s x) = true)) (fun v10 => s.size - (intOf v10).toNat)
    case atStart => exact ⟨i + 1, Nat.le_refl _, by omega, by go_num, fun x h1 h2 => by omega⟩
    case round =>
      obtain ⟨k, hik, hks, rfl, hall⟩ := hrel
      have hca := fun (W : World) => refAt_calls s (k : Int) (by omega) hs W
      rw [at_nat] at hca
      have hcd := fun (W : World) => refDigit_calls (bt s k) W (bt_bd s k).1 (bt_bd s k).2
      have hcl := fun (W : World) => refLetter_calls (bt s k) W (bt_bd s k).1 (bt_bd s k).2
      have hltk : isDigit (bt s k) = true → k < s.size := fun h => by
        by_cases hz : k < s.size
        · exact hz
        · rw [bt_out s k hz] at h; simp [isDigit] at h
      have hkI : (k : Int) ≤ (s.size : Int) := by omega
      have hikI : (i : Int) ≤ (k : Int) := by omega
      cases hdk : isDigit (bt s k) with
      | true =>
        rw [hdk] at hcd
        have HN := Lib.hid hdk
        have hkl := hltk hdk
        clear hdk hltk hcl
        go_wp2_with fail
        refine (hca _).mono ?_
        rintro e w' ⟨rfl, rfl⟩
        go_wp2_with fail
        refine (hcd _).mono ?_
        rintro e w' ⟨rfl, rfl⟩
        go_wp2_with fail
        go_round
        case rel =>
          refine ⟨k + 1, by omega, by omega, by go_num, fun x h1 h2 => ?_⟩
          by_cases e : x = k
          · rw [e]; exact HN.out
          · exact hall.out x h1 (by omega)
        case measure => simp [intOf]; omega
      | false =>
        rw [hdk] at hcd
        have hse : spanEnd s isDigit (i + 1) = k := spanEnd_eq s isDigit (i + 1) k hik hks hall.out (.inr hdk)
        have HSE := Lib.hid hse
        have hTz : (s.extract i k).size ≤ 100000 := by rw [piece_size _ _ _ hks]; omega
        have hcg := fun (W : World) => refGood_calls (s.extract i k) W hTz
        have hrun := refGood_run s i hi HNS.out
        rw [hse] at hrun
        rw [hrun] at hcg
        obtain ⟨T, hT⟩ : ∃ T, T = s.extract i k := ⟨_, rfl⟩
        rw [← hT] at hcg
        have hTe : s.extract i k = T := hT.symm
        have HTE := Lib.hid hTe
        clear hdk hltk hse hrun hT
        cases hg : goodB T with
        | false =>
          rw [hg] at hcg
          have HG := Lib.hid hg
          clear hg hcl
          go_wp2_with fail
          refine (hca _).mono ?_
          rintro e w' ⟨rfl, rfl⟩
          go_wp2_with fail
          refine (hcd _).mono ?_
          rintro e w' ⟨rfl, rfl⟩
          go_wp2_with fail
          refine (hcg _).mono ?_
          rintro e w' ⟨rfl, rfl⟩
          go_wp2_with fail
          refine bodyPost_ret (v := oneV 2 T i k false) (by simp [results, Tryd.results44, go_sem, oneV, *]) rfl ?_
          unfold OneNumPost
          rw [HSE.out, HTE.out]
          refine ifPost_no (fun h => by rw [HG.out] at h; cases h.1) ?_
          exact ⟨_, _, _, rfl, by (repeat' (first | (with_reducible exact Below.refl _ _) | (with_reducible assumption) | (with_reducible refine Below.alloc ?_ ?_ _) | (with_reducible refine Below.drew ?_) | (with_reducible refine Below.setCell ?_ ?_ _) | (with_reducible refine Below.trans ?_ (Below.mono (by assumption) ?_)) | go_size))⟩
        | true =>
          rw [hg] at hcg
          have HG := Lib.hid hg
          clear hg
          cases hle : isLetter (bt s k) with
          | true =>
            rw [hle] at hcl
            have HLE := Lib.hid hle
            clear hle
            go_wp2_with fail
            refine (hca _).mono ?_
            rintro e w' ⟨rfl, rfl⟩
            go_wp2_with fail
            refine (hcd _).mono ?_
            rintro e w' ⟨rfl, rfl⟩
            go_wp2_with fail
            refine (hcg _).mono ?_
            rintro e w' ⟨rfl, rfl⟩
            go_wp2_with fail
            refine (hca _).mono ?_
            rintro e w' ⟨rfl, rfl⟩
            go_wp2_with fail
            refine (hcl _).mono ?_
            rintro e w' ⟨rfl, rfl⟩
            go_wp2_with fail
            refine bodyPost_ret (v := oneV 2 T i k false) (by simp [results, Tryd.results44, go_sem, oneV, *]) rfl ?_
            unfold OneNumPost
            rw [HSE.out, HTE.out]
            refine ifPost_no (fun h => by rw [HLE.out] at h; cases h.2) ?_
            exact ⟨_, _, _, rfl, by (repeat' (first | (with_reducible exact Below.refl _ _) | (with_reducible assumption) | (with_reducible refine Below.alloc ?_ ?_ _) | (with_reducible refine Below.drew ?_) | (with_reducible refine Below.setCell ?_ ?_ _) | (with_reducible refine Below.trans ?_ (Below.mono (by assumption) ?_)) | go_size))⟩
          | false =>
            rw [hle] at hcl
            have HLE := Lib.hid hle
            clear hle
            go_wp2_with fail
            refine (hca _).mono ?_
            rintro e w' ⟨rfl, rfl⟩
            go_wp2_with fail
            refine (hcd _).mono ?_
            rintro e w' ⟨rfl, rfl⟩
            go_wp2_with fail
            refine (hcg _).mono ?_
            rintro e w' ⟨rfl, rfl⟩
            go_wp2_with fail
            refine (hca _).mono ?_
            rintro e w' ⟨rfl, rfl⟩
            go_wp2_with fail
            refine (hcl _).mono ?_
            rintro e w' ⟨rfl, rfl⟩
            go_wp2_with fail
            refine bodyPost_ret (v := oneV 2 T i k true) (by simp [results, Tryd.results44, go_sem, oneV, *]) rfl ?_
            unfold OneNumPost
            rw [HSE.out, HTE.out]
            refine ifPost_yes ⟨HG.out, HLE.out⟩ ?_
            exact ⟨rfl, by (repeat' (first | (with_reducible exact Below.refl _ _) | (with_reducible assumption) | (with_reducible refine Below.alloc ?_ ?_ _) | (with_reducible refine Below.drew ?_) | (with_reducible refine Below.setCell ?_ ?_ _) | (with_reducible refine Below.trans ?_ (Below.mono (by assumption) ?_)) | go_size))⟩
  | false =>
    rw [hdg] at hcd
    have h2 := HN.out
    rw [hdg, Bool.false_or, Bool.and_eq_true, decide_eq_true_eq] at h2
    have b45 : (c == 45) = true := by rw [h2.1]; rfl
    rw [h2.2] at hce
    clear hdg HN h2
    go_wp2_with fail
    refine (hcd _).mono ?_
    rintro e w' ⟨rfl, rfl⟩
    go_wp2_with fail
    refine (hca _).mono ?_
    rintro e w' ⟨rfl, rfl⟩
    go_wp2_with fail
    refine (hce _).mono ?_
    rintro e w' ⟨rfl, rfl⟩
    clear hcd hca hce b45
    go_wp2_with fail
    go_loop [10] (fun v10 => ∃ k : Nat, i + 1 ≤ k ∧ k ≤ s.size ∧ v10 = .int .i64 (k : Int) ∧ Hid (∀ x, i + 1 ≤ x → x < k → isDigit (bt s x) = true)) (fun v10 => s.size - (intOf v10).toNat)
    case atStart => exact ⟨i + 1, Nat.le_refl _, by omega, by go_num, fun x h1 h2 => by omega⟩
    case round =>
      obtain ⟨k, hik, hks, rfl, hall⟩ := hrel
      have hca := fun (W : World) => refAt_calls s (k : Int) (by omega) hs W
      rw [at_nat] at hca
      have hcd := fun (W : World) => refDigit_calls (bt s k) W (bt_bd s k).1 (bt_bd s k).2
      have hcl := fun (W : World) => refLetter_calls (bt s k) W (bt_bd s k).1 (bt_bd s k).2
      have hltk : isDigit (bt s k) = true → k < s.size := fun h => by
        by_cases hz : k < s.size
        · exact hz
        · rw [bt_out s k hz] at h; simp [isDigit] at h
      have hkI : (k : Int) ≤ (s.size : Int) := by omega
      have hikI : (i : Int) ≤ (k : Int) := by omega
      cases hdk : isDigit (bt s k) with
      | true =>
        rw [hdk] at hcd
        have HN := Lib.hid hdk
        have hkl := hltk hdk
        clear hdk hltk hcl
        go_wp2_with fail
        refine (hca _).mono ?_
        rintro e w' ⟨rfl, rfl⟩
        go_wp2_with fail
        refine (hcd _).mono ?_
        rintro e w' ⟨rfl, rfl⟩
        go_wp2_with fail
        go_round
        case rel =>
          refine ⟨k + 1, by omega, by omega, by go_num, fun x h1 h2 => ?_⟩
          by_cases e : x = k
          · rw [e]; exact HN.out
          · exact hall.out x h1 (by omega)
        case measure => simp [intOf]; omega
      | false =>
        rw [hdk] at hcd
        have hse : spanEnd s isDigit (i + 1) = k := spanEnd_eq s isDigit (i + 1) k hik hks hall.out (.inr hdk)
        have HSE := Lib.hid hse
        have hTz : (s.extract i k).size ≤ 100000 := by rw [piece_size _ _ _ hks]; omega
        have hcg := fun (W : World) => refGood_calls (s.extract i k) W hTz
        have hrun := refGood_run s i hi HNS.out
        rw [hse] at hrun
        rw [hrun] at hcg
        obtain ⟨T, hT⟩ : ∃ T, T = s.extract i k := ⟨_, rfl⟩
        rw [← hT] at hcg
        have hTe : s.extract i k = T := hT.symm
        have HTE := Lib.hid hTe
        clear hdk hltk hse hrun hT
        cases hg : goodB T with
        | false =>
          rw [hg] at hcg
          have HG := Lib.hid hg
          clear hg hcl
          go_wp2_with fail
          refine (hca _).mono ?_
          rintro e w' ⟨rfl, rfl⟩
          go_wp2_with fail
          refine (hcd _).mono ?_
          rintro e w' ⟨rfl, rfl⟩
          go_wp2_with fail
          refine (hcg _).mono ?_
          rintro e w' ⟨rfl, rfl⟩
          go_wp2_with fail
          refine bodyPost_ret (v := oneV 2 T i k false) (by simp [results, Tryd.results44, go_sem, oneV, *]) rfl ?_
          unfold OneNumPost
          rw [HSE.out, HTE.out]
          refine ifPost_no (fun h => by rw [HG.out] at h; cases h.1) ?_
          exact ⟨_, _, _, rfl, by (repeat' (first | (with_reducible exact Below.refl _ _) | (with_reducible assumption) | (with_reducible refine Below.alloc ?_ ?_ _) | (with_reducible refine Below.drew ?_) | (with_reducible refine Below.setCell ?_ ?_ _) | (with_reducible refine Below.trans ?_ (Below.mono (by assumption) ?_)) | go_size))⟩
        | true =>
          rw [hg] at hcg
          have HG := Lib.hid hg
          clear hg
          cases hle : isLetter (bt s k) with
          | true =>
            rw [hle] at hcl
            have HLE := Lib.hid hle
            clear hle
            go_wp2_with fail
            refine (hca _).mono ?_
            rintro e w' ⟨rfl, rfl⟩
            go_wp2_with fail
            refine (hcd _).mono ?_
            rintro e w' ⟨rfl, rfl⟩
            go_wp2_with fail
            refine (hcg _).mono ?_
            rintro e w' ⟨rfl, rfl⟩
            go_wp2_with fail
            refine (hca _).mono ?_
            rintro e w' ⟨rfl, rfl⟩
            go_wp2_with fail
            refine (hcl _).mono ?_
            rintro e w' ⟨rfl, rfl⟩
            go_wp2_with fail
            refine bodyPost_ret (v := oneV 2 T i k false) (by simp [results, Tryd.results44, go_sem, oneV, *]) rfl ?_
            unfold OneNumPost
            rw [HSE.out, HTE.out]
            refine ifPost_no (fun h => by rw [HLE.out] at h; cases h.2) ?_
            exact ⟨_, _, _, rfl, by (repeat' (first | (with_reducible exact Below.refl _ _) | (with_reducible assumption) | (with_reducible refine Below.alloc ?_ ?_ _) | (with_reducible refine Below.drew ?_) | (with_reducible refine Below.setCell ?_ ?_ _) | (with_reducible refine Below.trans ?_ (Below.mono (by assumption) ?_)) | go_size))⟩
          | false =>
            rw [hle] at hcl
            have HLE := Lib.hid hle
            clear hle
            go_wp2_with fail
            refine (hca _).mono ?_
            rintro e w' ⟨rfl, rfl⟩
            go_wp2_with fail
            refine (hcd _).mono ?_
            rintro e w' ⟨rfl, rfl⟩
            go_wp2_with fail
            refine (hcg _).mono ?_
            rintro e w' ⟨rfl, rfl⟩
            go_wp2_with fail
            refine (hca _).mono ?_
            rintro e w' ⟨rfl, rfl⟩
            go_wp2_with fail
            refine (hcl _).mono ?_
            rintro e w' ⟨rfl, rfl⟩
            go_wp2_with fail
            refine bodyPost_ret (v := oneV 2 T i k true) (by simp [results, Tryd.results44, go_sem, oneV, *]) rfl ?_
            unfold OneNumPost
            rw [HSE.out, HTE.out]
            refine ifPost_yes ⟨HG.out, HLE.out⟩ ?_
            exact ⟨rfl, by (repeat' (first | (with_reducible exact Below.refl _ _) | (with_reducible assumption) | (with_reducible refine Below.alloc ?_ ?_ _) | (with_reducible refine Below.drew ?_) | (with_reducible refine Below.setCell ?_ ?_ _) | (with_reducible refine Below.trans ?_ (Below.mono (by assumption) ?_)) | go_size))⟩

end Go.Proofs.YtgoaiokpnifhfaaDoor
