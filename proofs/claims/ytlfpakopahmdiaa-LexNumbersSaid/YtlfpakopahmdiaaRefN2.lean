/-
  The document's Number, no minus ahead.
-/
import Derived.Test.YtlfpakopahmdiaaRefN0
namespace Go.Proofs.Ytlfpakopahmdiaa
open Go.RowKit
set_option linter.unusedVariables false
set_option linter.unusedSimpArgs false

set_option maxHeartbeats 8000000 in
set_option maxRecDepth 100000 in
theorem refNumber_plus (s : ByteArray) (size : Int) (sign : Bool) (w : World) (hs : s.size ≤ 100000) (hz0 : -9223372036854775808 ≤ size) (hz1 : size ≤ 9223372036854775807) (hg : refGoodB s = true) (hsz : sizedB size = true) (hm : hasMinus s = false) :
    Calls Try.prog 39 #[.string s, .int .i64 size, .bool sign] w (RefNumPost w (numOf s size sign)) := by
  have hcg := refGood_calls s w hs
  rw [hg] at hcg
  have hcs := refSized_calls size hz0 hz1 w
  rw [hsz] at hcs
  have hs4 := sized_cases size hsz
  have hgb : goodB s = true := by rw [refGoodB, Bool.and_eq_true] at hg; exact hg.1
  have hgi := (goodB_iff s).1 hgb
  have hd0 : digits s = (if hasMinus s = true then s.extract 1 s.size else s) := by
    cases hm : hasMinus s with
    | true => rw [digits, digFrom, hm]; rfl
    | false =>
      rw [digits, digFrom, hm]
      apply ByteArray.ext; apply Array.ext'
      show (s.extract 0 s.size).data.toList = _
      rw [Lib.extract_to_end]; simp
  have hsp : 0 < s.size := by
    have := hgi.1
    rw [digits, piece_size _ _ _ (Nat.le_refl _)] at this; omega
  have hspI : (1 : Int) ≤ (s.size : Int) := by omega
  have hb0 := bt_in s 0 hsp
  have hz : (digits s).size ≤ 20 := hgi.2.1
  have hall0 := refGood_all s hg
  have HSZ := Lib.hid hsz
  have HG := Lib.hid hg
  have HALL0 := Lib.hid hall0
  have hnumM : ∀ v, digVal s = some v → hasMinus s = true → numOf s size sign = if sign = true ∧ v ≤ halfOf size then some (IntKind.u64.wrap (-v)) else none := by
    intro v hv hm
    rw [numOf, hv]; simp only []; rw [if_neg (by rw [hsz]; simp), if_pos hm]
  have hnumP : ∀ v, digVal s = some v → hasMinus s = false → numOf s size sign = if v < (if sign = true then halfOf size else 2 * halfOf size) then some v else none := by
    intro v hv hm
    rw [numOf, hv]; simp only []; rw [if_neg (by rw [hsz]; simp), if_neg (by rw [hm]; simp)]
  have HNM := Lib.hid hnumM
  have HNP := Lib.hid hnumP
  clear hsz hg hgi hall0 hgb hnumM hnumP
  rw [hm] at hd0
  simp only [Bool.false_eq_true, if_false] at hd0
  have hmb : (((s[0]'hsp).toNat : Int) == 45) = false := by
    rw [beq_eq_false_iff_ne, hb0]; simpa [hasMinus] using hm
  have HM := Lib.hid hm
  rw [hd0] at hz
  have HD := Lib.hid hd0.symm
  clear hm hb0 hd0
  go_enter Try.func39, Try.ntmps39
  go_wp2_with fail
  refine hcg.mono ?_
  rintro e w' ⟨rfl, rfl⟩
  go_wp2_with fail
  refine hcs.mono ?_
  rintro e w' ⟨rfl, rfl⟩
  clear hcg hcs
  go_wp2_with fail
  go_loop [10, 11] (fun v10 v11 => ∃ k : Nat, k ≤ s.size ∧ v11 = .int .i64 k ∧ v10 = .int .u64 (valOf s k) ∧ Hid (valOf s k ≤ U64M)) (fun _ v11 => s.size - (intOf v11).toNat)
  case atStart => exact ⟨0, by omega, rfl, rfl, by show (0 : Int) ≤ U64M; unfold U64M; omega⟩
  case round =>
    obtain ⟨k, hk, rfl, rfl, hval⟩ := hrel
    by_cases hkd : k < s.size
    · have hbk := bt_in s k hkd
      have hxb := dig_bd _ (HALL0.out k (by rw [← HD.out]; exact hkd))
      rw [← HD.out] at hxb
      have hv0 := valOf_nonneg s k (fun j hj => by have := HALL0.out j (by rw [← HD.out]; omega); rw [← HD.out] at this; exact this)
      have hnext : valOf s (k + 1) = valOf s k * 10 + (bt s k - 48) := rfl
      obtain ⟨v, hv⟩ : ∃ v, v = valOf s k := ⟨_, rfl⟩
      obtain ⟨x, hx⟩ : ∃ x, x = bt s k := ⟨_, rfl⟩
      rw [← hv] at hval hv0 hnext ⊢
      rw [← hx] at hbk hxb hnext
      have hxb0 := hxb.1
      have hxb1 := hxb.2
      have HNEXT := Lib.hid hnext
      have hkI : (k : Int) < (s.size : Int) := by omega
      have hvU : v ≤ 18446744073709551615 := hval.out
      have hoi := refOver_iff v x hxb0 hxb1
      have HVEQ := Lib.hid hv
      clear hxb hx hnext hv
      by_cases ho1 : 1844674407370955161 < v
      · have HF := Lib.hid (digVal_no s (fun h => by
          have h1 := hoi.1 (.inl ho1)
          have h2 := h.2
          have h3 := HALL0.out
          rw [← HD.out] at h2 h3
          have h4 := valOf_le s s.size h3 (k + 1) (by omega)
          rw [HNEXT.out] at h4
          omega) size sign)
        clear hoi
        go_wp2
        go_ret2
        exact refNum_no _ _ HF.out _
      · have ho1' : v ≤ 1844674407370955161 := Int.not_lt.1 ho1
        by_cases ho2 : 18446744073709551615 - (x - 48) < v * 10
        · have HF := Lib.hid (digVal_no s (fun h => by
            have h1 := hoi.1 (.inr ho2)
            have h2 := h.2
            have h3 := HALL0.out
            rw [← HD.out] at h2 h3
            have h4 := valOf_le s s.size h3 (k + 1) (by omega)
            rw [HNEXT.out] at h4
            omega) size sign)
          clear hoi ho1
          go_wp2
          go_ret2
          exact refNum_no _ _ HF.out _
        · have HOK := Lib.hid (show v * 10 + (x - 48) ≤ U64M from Int.not_lt.1 (fun h => by rcases hoi.2 h with h | h; exact ho1 h; exact ho2 h))
          have ho2' : v * 10 ≤ 18446744073709551615 - (x - 48) := Int.not_lt.1 ho2
          clear hoi ho1 ho2
          go_wp2
          go_round
          case rel =>
            refine ⟨k + 1, by omega, by go_num, by rw [HNEXT.out], ?_⟩
            show valOf s (k + 1) ≤ U64M
            rw [HNEXT.out]; exact HOK.out
          case measure => simp [intOf]; omega
    · obtain rfl : k = s.size := by omega
      have hdv : digVal s = some (valOf s s.size) := by rw [digVal, ← HD.out, if_pos ⟨HG.out, hval.out⟩]
      have HDV := Lib.hid hdv
      have hv0 := valOf_nonneg s s.size (fun j hj => by have := HALL0.out j (by rw [← HD.out]; omega); rw [← HD.out] at this; exact this)
      obtain ⟨v, hv⟩ : ∃ v, v = valOf s s.size := ⟨_, rfl⟩
      rw [← hv] at hval hv0 HDV ⊢
      have hvM : v ≤ 18446744073709551615 := hval.out
      clear hdv hv hval
      have hfin := HNP.out v HDV.out HM.out
      have HN := Lib.hid hfin
      clear hfin
      cases sign with
      | false =>
        rcases hs4 with rfl | rfl | rfl | rfl
        · by_cases hh : v ≤ 255
          · have HF := Lib.hid (show numOf s 1 false = some v by rw [HN.out]; simp only [Bool.false_eq_true, if_false]; exact if_pos (show v < 2 * halfOf 1 from (show v < 256 by omega)))
            have hdd : decide (v ≤ 255) = true := decide_eq_true hh
            clear hh
            go_wp2
            go_ret2
            exact refNum_yes _ _ _ _ HF.out rfl
          · have hdd : decide (v ≤ 255) = false := decide_eq_false hh
            have HF := Lib.hid (show numOf s 1 false = none by rw [HN.out]; simp only [Bool.false_eq_true, if_false]; exact if_neg (show ¬ v < 2 * halfOf 1 from (show ¬ v < 256 by omega)))
            clear hh
            go_wp2
            go_ret2
            exact refNum_no _ _ HF.out _
        · by_cases hh : v ≤ 65535
          · have HF := Lib.hid (show numOf s 2 false = some v by rw [HN.out]; simp only [Bool.false_eq_true, if_false]; exact if_pos (show v < 2 * halfOf 2 from (show v < 65536 by omega)))
            have hdd : decide (v ≤ 65535) = true := decide_eq_true hh
            clear hh
            go_wp2
            go_ret2
            exact refNum_yes _ _ _ _ HF.out rfl
          · have hdd : decide (v ≤ 65535) = false := decide_eq_false hh
            have HF := Lib.hid (show numOf s 2 false = none by rw [HN.out]; simp only [Bool.false_eq_true, if_false]; exact if_neg (show ¬ v < 2 * halfOf 2 from (show ¬ v < 65536 by omega)))
            clear hh
            go_wp2
            go_ret2
            exact refNum_no _ _ HF.out _
        · by_cases hh : v ≤ 4294967295
          · have HF := Lib.hid (show numOf s 4 false = some v by rw [HN.out]; simp only [Bool.false_eq_true, if_false]; exact if_pos (show v < 2 * halfOf 4 from (show v < 4294967296 by omega)))
            have hdd : decide (v ≤ 4294967295) = true := decide_eq_true hh
            clear hh
            go_wp2
            go_ret2
            exact refNum_yes _ _ _ _ HF.out rfl
          · have hdd : decide (v ≤ 4294967295) = false := decide_eq_false hh
            have HF := Lib.hid (show numOf s 4 false = none by rw [HN.out]; simp only [Bool.false_eq_true, if_false]; exact if_neg (show ¬ v < 2 * halfOf 4 from (show ¬ v < 4294967296 by omega)))
            clear hh
            go_wp2
            go_ret2
            exact refNum_no _ _ HF.out _
        · by_cases hh : v ≤ 18446744073709551615
          · have HF := Lib.hid (show numOf s 8 false = some v by rw [HN.out]; simp only [Bool.false_eq_true, if_false]; exact if_pos (show v < 2 * halfOf 8 from (show v < 18446744073709551616 by omega)))
            have hdd : decide (v ≤ 18446744073709551615) = true := decide_eq_true hh
            clear hh
            go_wp2
            go_ret2
            exact refNum_yes _ _ _ _ HF.out rfl
          · exfalso; omega
      | true =>
        rcases hs4 with rfl | rfl | rfl | rfl
        · by_cases hh : v ≤ 127
          · have HF := Lib.hid (show numOf s 1 true = some v by rw [HN.out]; simp only [if_true]; exact if_pos (show v < halfOf 1 from (show v < 128 by omega)))
            have hdd : decide (v ≤ 127) = true := decide_eq_true hh
            clear hh
            go_wp2
            go_ret2
            exact refNum_yes _ _ _ _ HF.out rfl
          · have hdd : decide (v ≤ 127) = false := decide_eq_false hh
            have HF := Lib.hid (show numOf s 1 true = none by rw [HN.out]; simp only [if_true]; exact if_neg (show ¬ v < halfOf 1 from (show ¬ v < 128 by omega)))
            clear hh
            go_wp2
            go_ret2
            exact refNum_no _ _ HF.out _
        · by_cases hh : v ≤ 32767
          · have HF := Lib.hid (show numOf s 2 true = some v by rw [HN.out]; simp only [if_true]; exact if_pos (show v < halfOf 2 from (show v < 32768 by omega)))
            have hdd : decide (v ≤ 32767) = true := decide_eq_true hh
            clear hh
            go_wp2
            go_ret2
            exact refNum_yes _ _ _ _ HF.out rfl
          · have hdd : decide (v ≤ 32767) = false := decide_eq_false hh
            have HF := Lib.hid (show numOf s 2 true = none by rw [HN.out]; simp only [if_true]; exact if_neg (show ¬ v < halfOf 2 from (show ¬ v < 32768 by omega)))
            clear hh
            go_wp2
            go_ret2
            exact refNum_no _ _ HF.out _
        · by_cases hh : v ≤ 2147483647
          · have HF := Lib.hid (show numOf s 4 true = some v by rw [HN.out]; simp only [if_true]; exact if_pos (show v < halfOf 4 from (show v < 2147483648 by omega)))
            have hdd : decide (v ≤ 2147483647) = true := decide_eq_true hh
            clear hh
            go_wp2
            go_ret2
            exact refNum_yes _ _ _ _ HF.out rfl
          · have hdd : decide (v ≤ 2147483647) = false := decide_eq_false hh
            have HF := Lib.hid (show numOf s 4 true = none by rw [HN.out]; simp only [if_true]; exact if_neg (show ¬ v < halfOf 4 from (show ¬ v < 2147483648 by omega)))
            clear hh
            go_wp2
            go_ret2
            exact refNum_no _ _ HF.out _
        · by_cases hh : v ≤ 9223372036854775807
          · have HF := Lib.hid (show numOf s 8 true = some v by rw [HN.out]; simp only [if_true]; exact if_pos (show v < halfOf 8 from (show v < 9223372036854775808 by omega)))
            have hdd : decide (v ≤ 9223372036854775807) = true := decide_eq_true hh
            clear hh
            go_wp2
            go_ret2
            exact refNum_yes _ _ _ _ HF.out rfl
          · have hdd : decide (v ≤ 9223372036854775807) = false := decide_eq_false hh
            have HF := Lib.hid (show numOf s 8 true = none by rw [HN.out]; simp only [if_true]; exact if_neg (show ¬ v < halfOf 8 from (show ¬ v < 9223372036854775808 by omega)))
            clear hh
            go_wp2
            go_ret2
            exact refNum_no _ _ HF.out _

end Go.Proofs.Ytlfpakopahmdiaa
