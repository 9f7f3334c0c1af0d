/-
  The document's Behind: the place of what stands behind blanks and remarks.
-/
import Derived.Test.YtejpjclbeogajaaDoorLexT
import Derived.Test.YtejpjclbeogajaaDoorRefG
namespace Go.Proofs.YtejpjclbeogajaaDoor
open Go.RowKit
set_option linter.unusedVariables false
set_option linter.unusedSimpArgs false

set_option maxHeartbeats 2000000 in
set_option maxRecDepth 100000 in
theorem refBehind_calls (s : ByteArray) (i : Nat) (hs : s.size ≤ 100000) (hi : i ≤ s.size) (w : World) :
    Calls Tryd.prog 41 #[.string s, .int .i64 (i : Int)] w fun e w' => e = .returned (.int .i64 (behind s i : Nat)) ∧ w = w' := by
  go_enter Tryd.func41, Tryd.ntmps41
  go_wp2_with fail
  go_loop [1] (fun v1 => ∃ j : Nat, i ≤ j ∧ j ≤ s.size ∧ v1 = .int .i64 (j : Int) ∧ Hid (behind s j = behind s i)) (fun v1 => s.size - (intOf v1).toNat)
  case atStart => exact ⟨i, Nat.le_refl _, hi, rfl, rfl⟩
  case round =>
    obtain ⟨j, hij, hjs, rfl, hbe⟩ := hrel
    by_cases hj : j < s.size
    · have hjI : (j : Int) < (s.size : Int) := by omega
      have hbi := bt_in s j hj
      have hbb := bt_bd s j
      have hbl := behind_blank s j hj
      have hst := behind_stop s j
      have hre := behind_remark s j
      have hrd := behindN_dec s j
      have HBL := Lib.hid hbl
      have HST := Lib.hid hst
      have HRE := Lib.hid hre
      have HRD := Lib.hid hrd
      have hir : isRemark s j = (decide (bt s j = 47) && decide (bt s (j + 1) = 47)) := rfl
      obtain ⟨c, hc⟩ : ∃ c, c = bt s j := ⟨_, rfl⟩
      rw [← hc] at hbi hbb hir
      have HC := Lib.hid hc
      have HIR := Lib.hid hir
      clear hbl hst hre hrd hc hir
      cases hb : isBlank c with
      | true =>
        have h4 : c = 32 ∨ c = 9 ∨ c = 10 ∨ c = 13 := by simpa [isBlank, or_assoc] using hb
        have HN := Lib.hid ((HBL.out (by rw [← HC.out]; exact hb)).symm.trans hbe.out)
        clear hb hbe HST HRE HRD HIR HBL HC
        rcases h4 with rfl | rfl | rfl | rfl
        all_goals
          go_wp2_with fail
          go_round
          case rel => exact ⟨j + 1, by omega, by omega, by go_num, HN.out⟩
          case measure => simp [intOf]; omega
      | false =>
        have hn4 : ¬ c = 32 ∧ ¬ c = 9 ∧ ¬ c = 10 ∧ ¬ c = 13 := by simpa [isBlank, and_assoc] using hb
        have b1 : (c == 32) = false := by rw [beq_eq_false_iff_ne]; exact hn4.1
        have b2 : (c == 9) = false := by rw [beq_eq_false_iff_ne]; exact hn4.2.1
        have b3 : (c == 10) = false := by rw [beq_eq_false_iff_ne]; exact hn4.2.2.1
        have b4 : (c == 13) = false := by rw [beq_eq_false_iff_ne]; exact hn4.2.2.2
        have HB := Lib.hid hb
        clear hn4 hb
        by_cases h47 : c = 47
        · have b5 : (c == 47) = true := by rw [h47]; rfl
          have hca := refAt_calls s ((j : Int) + 1) (by omega) hs w
          have ej : ((j : Int) + 1).toNat = j + 1 := by omega
          rw [ej] at hca
          by_cases h2 : bt s (j + 1) = 47
          · have hrm : isRemark s j = true := by rw [HIR.out, h47, h2]; rfl
            have HN := Lib.hid ((HRE.out hrm).symm.trans hbe.out)
            have HD := Lib.hid (HRD.out hrm)
            rw [h2] at hca
            clear h47 h2 hbe HST HRE HRD HIR HBL hrm ej
            go_wp2_with fail
            refine hca.mono ?_
            rintro e w' ⟨rfl, rfl⟩
            go_wp2_with fail
            go_loop [1] (fun v1 => ∃ y : Nat, j ≤ y ∧ y ≤ s.size ∧ v1 = .int .i64 (y : Int) ∧ Hid (∀ x, j ≤ x → x < y → notLine (bt s x) = true)) (fun v1 => s.size - (intOf v1).toNat)
            case atStart => exact ⟨j, Nat.le_refl _, by omega, rfl, fun x h1 h2 => by omega⟩
            case round =>
              obtain ⟨y, hjy, hys, rfl, hall⟩ := hrel
              by_cases hy : y < s.size
              · have hyI : (y : Int) < (s.size : Int) := by omega
                have hdy : decide ((y : Int) < (s.size : Int)) = true := decide_eq_true hyI
                have hby := bt_in s y hy
                by_cases h10 : bt s y = 10
                · have hn10 : (((s[y]'hy).toNat : Int) != 10) = false := by rw [hby, h10]; rfl
                  have hse : remarkEnd s j = y := spanEnd_eq s notLine j y hjy hys hall.out (.inr (by rw [h10]; rfl))
                  have HSE := Lib.hid hse
                  clear hby h10 hse hca
                  go_wp2_with fail
                  go_round
                  case rel => exact ⟨y, by omega, hys, rfl, by rw [← HSE.out]; exact HN.out⟩
                  case measure => have := HD.out; rw [HSE.out] at this; simp [intOf]; omega
                · have hn10 : (((s[y]'hy).toNat : Int) != 10) = true := by rw [hby]; simpa [bne] using h10
                  have HNL := Lib.hid (show notLine (bt s y) = true by simp [notLine, h10])
                  clear hby h10 hca
                  go_wp2_with fail
                  go_round
                  case rel =>
                    refine ⟨y + 1, by omega, by omega, by go_num, fun x h1 h2 => ?_⟩
                    by_cases e : x = y
                    · rw [e]; exact HNL.out
                    · exact hall.out x h1 (by omega)
                  case measure => simp [intOf]; omega
              · have hye : y = s.size := by omega
                have hdy : decide ((y : Int) < (s.size : Int)) = false := decide_eq_false (by omega)
                have hse : remarkEnd s j = y := spanEnd_eq s notLine j y hjy hys hall.out (.inl hye)
                have HSE := Lib.hid hse
                have HYE := Lib.hid hye
                clear hse hca hye
                go_wp2_with fail
                go_round
                case rel => exact ⟨y, by omega, hys, rfl, by rw [← HSE.out]; exact HN.out⟩
                case measure => have := HD.out; rw [HSE.out] at this; simp [intOf]; omega
          · have b6 : (bt s (j + 1) == 47) = false := by rw [beq_eq_false_iff_ne]; exact h2
            have HF := Lib.hid (hbe.out.symm.trans (HST.out (by rw [← HC.out]; exact HB.out) (by rw [HIR.out, decide_eq_false h2]; simp)))
            clear h47 h2 hbe HST HRE HRD HIR HBL ej
            go_wp2_with fail
            refine hca.mono ?_
            rintro e w' ⟨rfl, rfl⟩
            go_wp2_with fail
            go_ret
            exact ⟨by rw [HF.out]; rfl, rfl⟩
        · have b5 : (c == 47) = false := by rw [beq_eq_false_iff_ne]; exact h47
          have HF := Lib.hid (hbe.out.symm.trans (HST.out (by rw [← HC.out]; exact HB.out) (by rw [HIR.out, decide_eq_false h47]; rfl)))
          clear h47 hbe HST HRE HRD HIR HBL
          go_wp2_with fail
          go_ret
          exact ⟨by rw [HF.out]; rfl, rfl⟩
    · have hje : j = s.size := by omega
      have HF := Lib.hid (hbe.out.symm.trans (behind_out s j hj))
      have hjI : (s.size : Int) ≤ (j : Int) := by omega
      clear hbe hje
      go_wp2_with fail
      go_ret
      exact ⟨by rw [HF.out]; rfl, rfl⟩

end Go.Proofs.YtejpjclbeogajaaDoor
