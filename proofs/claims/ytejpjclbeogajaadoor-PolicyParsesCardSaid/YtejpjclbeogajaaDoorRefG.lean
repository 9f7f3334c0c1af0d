/-
  The document's: a text's byte; is a text a number's?
-/
import Derived.Test.YtejpjclbeogajaaDoorLexG
import Derived.Deep.DeepCutAuto
namespace Go.Proofs.YtejpjclbeogajaaDoor
open Go.RowKit
set_option linter.unusedVariables false
set_option linter.unusedSimpArgs false

set_option maxHeartbeats 400000 in
theorem refAt_calls (s : ByteArray) (i : Int) (h0 : 0 ≤ i) (hs : s.size ≤ 100000) (w : World) :
    Calls Tryd.prog 78 #[.string s, .int .i64 i] w fun e w' => e = .returned (.int .u8 (bt s i.toNat)) ∧ w = w' := by
  obtain ⟨k, rfl⟩ := Int.eq_ofNat_of_zero_le h0
  by_cases h : k < s.size
  · have hb := Lib.hid (bt_in s k h)
    have hI : (k : Int) < (s.size : Int) := by omega
    go_enter Tryd.func78, Tryd.ntmps78
    go_wp2
    go_ret
    exact ⟨by simp [← hb.out], rfl⟩
  · have hb := Lib.hid (bt_out s k h)
    go_enter Tryd.func78, Tryd.ntmps78
    go_wp2
    go_ret
    exact ⟨by simp [hb.out], rfl⟩

def allDigits (d : ByteArray) (k : Nat) : Prop := ∀ j, j < k → isDigit (bt d j) = true
instance (d : ByteArray) (k : Nat) : Decidable (allDigits d k) := by unfold allDigits; infer_instance
def refGoodB (s : ByteArray) : Bool := goodB s && decide (allDigits (digits s) (digits s).size)

theorem goodB_iff (s : ByteArray) : goodB s = true ↔ (1 ≤ (digits s).size ∧ (digits s).size ≤ 20 ∧ ((digits s).size = 1 ∨ ¬ bt (digits s) 0 = 48) ∧ ¬ s.data.toList = [45, 48]) := by
  unfold goodB
  simp [and_assoc]
theorem refGood_no (s : ByteArray) (h : ¬ (1 ≤ (digits s).size ∧ (digits s).size ≤ 20 ∧ ((digits s).size = 1 ∨ ¬ bt (digits s) 0 = 48) ∧ ¬ s.data.toList = [45, 48])) : refGoodB s = false := by
  have : goodB s = false := by
    cases hg : goodB s
    · rfl
    · exact absurd ((goodB_iff s).1 hg) h
  rw [refGoodB, this]; rfl

set_option maxHeartbeats 1000000 in
theorem refGood_calls (s : ByteArray) (w : World) (hs : s.size ≤ 100000) :
    Calls Tryd.prog 81 #[.string s] w fun e w' => e = .returned (.bool (refGoodB s)) ∧ w = w' := by
  have hbb := bt_bd s 0
  go_enter Tryd.func81, Tryd.ntmps81
  go_wp2_with fail
  refine (refAt_calls s 0 (by omega) hs w).mono ?_
  rintro e w' ⟨rfl, rfl⟩
  go_upto_if 8 with (fail)
  go_cut [3] (fun v3 wc => v3 = .string (digits s) ∧ w = wc)
  case first =>
    by_cases hm : bt s 0 = 45
    · have hb : (bt s 0 == 45) = true := by rw [beq_iff_eq]; exact hm
      have hz : 0 < s.size := by
        by_cases h : 0 < s.size
        · exact h
        · rw [bt_out s 0 h] at hm; omega
      have hzI : (1 : Int) ≤ (s.size : Int) := by omega
      have hd : digits s = s.extract 1 s.size := by rw [digits, digFrom, hasMinus, decide_eq_true hm]; rfl
      have HD := Lib.hid hd
      clear hd hm
      go_wp2
      go_meet
      case rel => exact ⟨by rw [HD.out], rfl⟩
    · have hb : (bt s 0 == 45) = false := by rw [beq_eq_false_iff_ne]; exact hm
      have hd : digits s = s := by
        rw [digits, digFrom, hasMinus, decide_eq_false hm]
        apply ByteArray.ext; apply Array.ext'
        show (s.extract 0 s.size).data.toList = _
        rw [Lib.extract_to_end]; simp
      have HD := Lib.hid hd
      clear hd hm
      go_wp2
      go_meet
      case rel => exact ⟨by rw [HD.out], rfl⟩
  obtain ⟨rfl, rfl⟩ := hcut
  have hno := refGood_no s
  have hdz : (digits s).size ≤ s.size := by rw [digits, piece_size _ _ _ (Nat.le_refl _)]; omega
  have hyes : ∀ h : goodB s = true, refGoodB s = decide (allDigits (digits s) (digits s).size) := fun h => by rw [refGoodB, h]; rfl
  have hiff := goodB_iff s
  have HYES := Lib.hid hyes
  obtain ⟨d, hd⟩ : ∃ d, d = digits s := ⟨_, rfl⟩
  rw [← hd] at hno hdz hiff
  have hyes' : ∀ h : goodB s = true, refGoodB s = decide (allDigits d d.size) := by rw [hd]; exact hyes
  rw [← hd]
  have HNO := Lib.hid hno
  have HIFF := Lib.hid hiff
  have HY := Lib.hid hyes'
  clear hno hiff hyes hyes' hd HYES hbb
  by_cases g1 : d.size < 1
  · have HF := Lib.hid (HNO.out (fun h => by omega))
    go_wp2
    go_ret
    exact ⟨by rw [HF.out]; rfl, rfl⟩
  by_cases g2 : 20 < d.size
  · have HF := Lib.hid (HNO.out (fun h => by omega))
    go_wp2
    go_ret
    exact ⟨by rw [HF.out]; rfl, rfl⟩
  have hd0 : 0 < d.size := by omega
  have hbt := bt_in d 0 hd0
  have HBT := Lib.hid hbt
  clear hbt
  by_cases g3 : 1 < d.size ∧ bt d 0 = 48
  · have HF := Lib.hid (HNO.out (fun h => by
      rcases h.2.2.1 with h | h
      · omega
      · exact h g3.2))
    have g31 := g3.1
    have g3b : ((d[0].toNat : Int) == 48) = true := by rw [HBT.out, beq_iff_eq]; exact g3.2
    clear g3
    go_wp2
    go_ret
    exact ⟨by rw [HF.out]; rfl, rfl⟩
  have g3' : d.size = 1 ∨ ¬ bt d 0 = 48 := by
    by_cases e : d.size = 1
    · exact .inl e
    · exact .inr (fun h => g3 ⟨by omega, h⟩)
  have g3c : d.size ≤ 1 ∨ (1 < d.size ∧ ((d[0].toNat : Int) == 48) = false) := by
    by_cases e : d.size = 1
    · exact .inl (by omega)
    · refine .inr ⟨by omega, ?_⟩
      rw [HBT.out, beq_eq_false_iff_ne]
      exact fun h => g3 ⟨by omega, h⟩
  have G3 := Lib.hid g3'
  have G3C := Lib.hid g3c
  clear g3 g3' g3c
  by_cases g4 : s.data.toList = [45, 48]
  · have HF := Lib.hid (HNO.out (fun h => h.2.2.2 g4))
    have g4b : (s.toList == [45, 48]) = true := by rw [Go.ByteArray.toList_eq, g4]; rfl
    clear g4
    rcases G3C.out with hq | ⟨hq, hq2⟩
    all_goals
      go_wp2
      go_ret
      exact ⟨by rw [HF.out]; rfl, rfl⟩
  have g4b : (s.toList == [45, 48]) = false := by rw [Go.ByteArray.toList_eq, beq_eq_false_iff_ne]; exact g4
  have hgood : goodB s = true := HIFF.out.2 ⟨by omega, by omega, G3.out, g4⟩
  have HRG := Lib.hid (HY.out hgood)
  have hdI : (d.size : Int) ≤ 20 := by omega
  clear g4 hgood
  rcases G3C.out with hq | ⟨hq, hq2⟩
  all_goals
    go_wp2
    go_loop [4] (fun v => ∃ k : Nat, k ≤ d.size ∧ v = .int .i64 k ∧ Hid (allDigits d k)) (fun v => d.size - (intOf v).toNat)
    case atStart => exact ⟨0, by omega, rfl, fun j hj => by omega⟩
    case round =>
      obtain ⟨k, hk, rfl, hall⟩ := hrel
      by_cases hkd : k < d.size
      · have hbk := bt_in d k hkd
        have hcal := refDigit_calls (bt d k) w (bt_bd d k).1 (bt_bd d k).2
        rw [← hbk] at hcal
        have HBK := Lib.hid hbk
        have hkI : (k : Int) < (d.size : Int) := by omega
        cases hdg : isDigit (bt d k) with
        | true =>
          rw [HBK.out, hdg, ← HBK.out] at hcal
          have HDG := Lib.hid hdg
          clear hbk hdg
          go_wp2_with fail
          refine hcal.mono ?_
          rintro e w' ⟨rfl, rfl⟩
          go_wp2
          go_round
          case rel =>
            refine ⟨k + 1, by omega, by go_num, fun j hj => ?_⟩
            by_cases e : j = k
            · rw [e]; exact HDG.out
            · exact hall.out j (by omega)
          case measure => simp [intOf]; omega
        | false =>
          rw [HBK.out, hdg, ← HBK.out] at hcal
          have HF := Lib.hid (show refGoodB s = false by
            rw [HRG.out]; exact decide_eq_false (fun h => by have := h k hkd; rw [hdg] at this; cases this))
          clear hbk hdg
          go_wp2_with fail
          refine hcal.mono ?_
          rintro e w' ⟨rfl, rfl⟩
          go_wp2
          go_ret
          exact ⟨by rw [HF.out]; rfl, rfl⟩
      · obtain rfl : k = d.size := by omega
        have HF := Lib.hid (show refGoodB s = true by rw [HRG.out]; exact decide_eq_true hall.out)
        go_wp2
        go_ret
        exact ⟨by rw [HF.out]; rfl, rfl⟩

end Go.Proofs.YtejpjclbeogajaaDoor
