/-
  lex.Number: a text's number.
-/
import Derived.Test.YtejpjclbeogajaaDoorRefG
import Derived.Test.YtejpjclbeogajaaDoorSized
import Derived.Test.YtejpjclbeogajaaDoorUtf
import Derived.Lib.ConvBytes
namespace Go.Proofs.YtejpjclbeogajaaDoor
open Go.RowKit
set_option linter.unusedVariables false
set_option linter.unusedSimpArgs false

theorem bytes_below (w : World) (e : TypeId) (s : ByteArray) : Below w.heap.size w (Lib.bytesWorld w e s) :=
  ⟨rfl, rfl, rfl, by rw [Lib.bytesWorld_size]; omega, fun k hk => Lib.bytesWorld_at_old w e s k hk⟩
theorem bytes_at (w : World) (e : TypeId) (s : ByteArray) : BytesAt (Lib.bytesWorld w e s) w.heap.size s := by
  intro j hj
  rw [Lib.bytesWorld_cell w e s j hj, ← bt_in s j hj]
  have e : s.data.toList.getD j 0 = s[j] := by
    rw [List.getD_eq_getElem?_getD, Array.getElem?_toList, Array.getElem?_eq_getElem (by simpa using hj)]; rfl
  rw [e]

/-- the greatest number -/
def U64M : Int := 18446744073709551615
/-- the digits' value -/
def valOf (d : ByteArray) : Nat → Int
  | 0 => 0
  | k + 1 => valOf d k * 10 + (bt d k - 48)

theorem dig_bd (c : Int) (h : isDigit c = true) : 48 ≤ c ∧ c ≤ 57 := by simpa [isDigit] using h
theorem valOf_nonneg (d : ByteArray) : ∀ k, allDigits d k → 0 ≤ valOf d k := by
  intro k
  induction k with
  | zero => intro _; exact Int.le_refl _
  | succ k ih =>
    intro h
    have h1 := ih (fun j hj => h j (by omega))
    have h2 := dig_bd _ (h k (by omega))
    simp only [valOf]; omega
theorem valOf_mono (d : ByteArray) (k : Nat) (h : allDigits d (k + 1)) : valOf d k ≤ valOf d (k + 1) := by
  have h1 := valOf_nonneg d k (fun j hj => h j (by omega))
  have h2 := dig_bd _ (h k (by omega))
  simp only [valOf]; omega

/-- the digits all read, and the number in 64 bits; none: a fault -/
def digVal (s : ByteArray) : Option Int := if refGoodB s = true ∧ valOf (digits s) (digits s).size ≤ U64M then some (valOf (digits s) (digits s).size) else none

/-- half of the numbers of so many bytes -/
def halfOf (z : Int) : Int := if z = 1 then 128 else if z = 2 then 32768 else if z = 4 then 2147483648 else 9223372036854775808
def numOf (s : ByteArray) (size : Int) (sign : Bool) : Option Int :=
  match digVal s with
  | none => none
  | some v => if sizedB size = false then none else if hasMinus s = true then (if sign = true ∧ v ≤ halfOf size then some (IntKind.u64.wrap (-v)) else none)
    else if v < (if sign = true then halfOf size else 2 * halfOf size) then some v else none
def numV : Option Int → Value
  | none => .tuple #[.int .u64 0, .bool false]
  | some v => .tuple #[.int .u64 v, .bool true]
theorem valOf_le (d : ByteArray) (n : Nat) (h : allDigits d n) : ∀ k, k ≤ n → valOf d k ≤ valOf d n := by
  induction n with
  | zero => intro k hk; obtain rfl : k = 0 := by omega
            exact Int.le_refl _
  | succ n ih =>
    intro k hk
    by_cases e : k = n + 1
    · rw [e]; exact Int.le_refl _
    · exact Int.le_trans (ih (fun j hj => h j (by omega)) k (by omega)) (valOf_mono d n h)
theorem digVal_no (s : ByteArray) (h : ¬ (refGoodB s = true ∧ valOf (digits s) (digits s).size ≤ U64M)) (size : Int) (sign : Bool) : numOf s size sign = none := by
  rw [numOf, digVal, if_neg h]
theorem refGood_all (s : ByteArray) (h : refGoodB s = true) : allDigits (digits s) (digits s).size := by
  rw [refGoodB, Bool.and_eq_true, decide_eq_true_eq] at h; exact h.2

theorem digits_lt (s : ByteArray) (h : 1 ≤ (digits s).size) : (hasMinus s = true → (digits s).size < s.size) ∧ (hasMinus s = false → (digits s).size = s.size) := by
  have hz : (digits s).size = s.size - digFrom s := by rw [digits, piece_size _ _ _ (Nat.le_refl _)]
  rw [hz] at h ⊢
  constructor
  · intro hm; rw [digFrom, if_pos hm] at h ⊢; omega
  · intro hm; rw [digFrom, if_neg (by rw [hm]; simp)]; omega
theorem sized_cases (z : Int) (h : sizedB z = true) : z = 1 ∨ z = 2 ∨ z = 4 ∨ z = 8 := by
  simp only [sizedB, Bool.or_eq_true, decide_eq_true_eq] at h; omega

theorem over_iff (v x : Int) (h : 48 ≤ x) (h2 : x ≤ 57) : ((18446744073709551615 - (x - 48)) / 10 < v) ↔ U64M < v * 10 + (x - 48) := by
  unfold U64M; omega

set_option maxHeartbeats 8000000 in
set_option maxRecDepth 100000 in
theorem lexNumber_calls (s : ByteArray) (size : Int) (sign : Bool) (w : World) (hs : s.size ≤ 100000) :
    Calls Tryd.prog 77 #[.string s, .int .i64 size, .bool sign] w fun e w' => e = .returned (numV (numOf s size sign)) ∧ Below w.heap.size w w' := by
  have hcal := fun (W : World) => Tryd.strings_TrimPrefix s ⟨#[45]⟩ W
  have htr : (⟨(Lib.trimPrefix s.data.toList (⟨#[45]⟩ : ByteArray).data.toList).toArray⟩ : ByteArray) = digits s := trim_minus s
  rw [htr] at hcal
  clear htr
  have hcg := lexGood_calls s w hs
  cases hg : goodB s with
  | false =>
    rw [hg] at hcg
    have HF := Lib.hid (digVal_no s (fun h => by rw [refGoodB, hg] at h; cases h.1) size sign)
    clear hg hcal
    go_enter Tryd.func77, Tryd.ntmps77
    go_wp2_with fail
    refine hcg.mono ?_
    rintro e w' ⟨rfl, rfl⟩
    go_wp2
    go_ret2
    exact ⟨by rw [HF.out]; rfl, Below.refl _ _⟩
  | true =>
    rw [hg] at hcg
    have hgi := (goodB_iff s).1 hg
    obtain ⟨d, hd⟩ : ∃ d, d = digits s := ⟨_, rfl⟩
    rw [← hd] at hcal hgi
    have hz0 : 1 ≤ d.size := hgi.1
    have hz1 : d.size ≤ 20 := hgi.2.1
    have kc := fun (w : World) => Lib.run_convert_string_bytes (P := Tryd.prog) w 9 22 5 d Tryd.underlying9 Tryd.underlying22 Tryd.underlying5
    have HD := Lib.hid hd
    have HG := Lib.hid hg
    clear hd hg hgi
    go_enter Tryd.func77, Tryd.ntmps77
    go_wp2_with fail
    refine hcg.mono ?_
    rintro e w' ⟨rfl, rfl⟩
    clear hcg
    go_wp2_with fail
    refine ((hcal _).mono (fun _ _ h => (⟨h.1, h.2.symm⟩ : _ ∧ w = _))).mono ?_
    rintro e w' ⟨rfl, rfl⟩
    clear hcal
    go_wp2_with fail
    have hB0 := bytes_below w 5 d
    have hBA := bytes_at w 5 d
    obtain ⟨wb, hwb⟩ : ∃ x, x = Lib.bytesWorld w 5 d := ⟨_, rfl⟩
    obtain ⟨g, hgg⟩ : ∃ x, x = w.heap.size := ⟨_, rfl⟩
    rw [← hwb] at hB0 hBA ⊢
    rw [← hgg] at hBA ⊢
    have HBA := Lib.hid hBA
    have HGG := Lib.hid hgg
    clear kc hwb hgg hBA
    go_loop [9, 21] (fun v9 v21 => ∃ k : Nat, k ≤ d.size ∧ v21 = .int .i64 k ∧ v9 = .int .u64 (valOf d k) ∧ Hid (allDigits d k) ∧ Hid (valOf d k ≤ U64M)) (fun _ v21 => d.size - (intOf v21).toNat)
    case atStart => exact ⟨0, by omega, rfl, rfl, fun j hj => by omega, by show (0 : Int) ≤ U64M; unfold U64M; omega⟩
    case round =>
      obtain ⟨k, hk, rfl, rfl, hall, hval⟩ := hrel
      by_cases hkd : k < d.size
      · have ck := HBA.out k hkd
        have hxb := bt_bd d k
        have hv0 := valOf_nonneg d k hall.out
        have hnext : valOf d (k + 1) = valOf d k * 10 + (bt d k - 48) := rfl
        obtain ⟨v, hv⟩ : ∃ v, v = valOf d k := ⟨_, rfl⟩
        obtain ⟨x, hx⟩ : ∃ x, x = bt d k := ⟨_, rfl⟩
        rw [← hv] at hval hv0 hnext ⊢
        rw [← hx] at ck hxb hnext
        have hxb0 := hxb.1
        have hxb1 := hxb.2
        have HX := Lib.hid hx
        have HV := Lib.hid hv
        have HNEXT := Lib.hid hnext
        have hkI : (k : Int) < (d.size : Int) := by omega
        clear hxb hx hv hnext
        have hcd := lexDigit_calls x wb hxb0 hxb1
        cases hdg : isDigit x with
        | false =>
          rw [hdg] at hcd
          have HDG := Lib.hid hdg
          clear hdg
          go_wp2_with fail
          refine hcd.mono ?_
          rintro e w' ⟨rfl, rfl⟩
          have HF := Lib.hid (digVal_no s (fun h => by
            have h1 := refGood_all s h.1
            rw [← HD.out] at h1
            have := h1 k hkd
            rw [← HX.out, HDG.out] at this; cases this) size sign)
          go_wp2
          go_ret2
          exact ⟨by rw [HF.out]; rfl, hB0⟩
        | true =>
          rw [hdg] at hcd
          have hd48 := dig_bd x hdg
          have hx48 := hd48.1
          have hx57 := hd48.2
          have HDG := Lib.hid hdg
          clear hdg hd48
          have hoi := over_iff v x hx48 hx57
          by_cases hov : (18446744073709551615 - (x - 48)) / 10 < v
          · have HOV := Lib.hid (hoi.1 hov)
            clear hoi
            go_wp2_with fail
            refine hcd.mono ?_
            rintro e w' ⟨rfl, rfl⟩
            have HF := Lib.hid (digVal_no s (fun h => by
              have h1 := refGood_all s h.1
              have h2 := h.2
              rw [← HD.out] at h1 h2
              have h3 := valOf_le d d.size h1 (k + 1) (by omega)
              have h4 := HOV.out
              rw [← HNEXT.out] at h4
              omega) size sign)
            go_wp2
            go_ret2
            exact ⟨by rw [HF.out]; rfl, hB0⟩
          · have HOV := Lib.hid (fun h => hov (hoi.2 h))
            clear hoi
            go_wp2_with fail
            refine hcd.mono ?_
            rintro e w' ⟨rfl, rfl⟩
            go_wp2
            go_round
            case rel =>
              refine ⟨k + 1, by omega, by go_num, by rw [HNEXT.out], fun j hj => ?_, ?_⟩
              · by_cases e : j = k
                · rw [e, ← HX.out]; exact HDG.out
                · exact hall.out j (by omega)
              · show valOf d (k + 1) ≤ U64M
                rw [HNEXT.out]; exact Int.not_lt.1 HOV.out
            case measure => simp [intOf]; omega
      · obtain rfl : k = d.size := by omega
        have hrg : refGoodB s = true := by rw [refGoodB, HG.out, ← HD.out]; simp; exact hall.out
        have hdv : digVal s = some (valOf d d.size) := by rw [digVal, if_pos ⟨hrg, by rw [← HD.out]; exact hval.out⟩, ← HD.out]
        have HDV := Lib.hid hdv
        have hv0 := valOf_nonneg d d.size hall.out
        obtain ⟨v, hv⟩ : ∃ v, v = valOf d d.size := ⟨_, rfl⟩
        rw [← hv] at hval hv0 HDV ⊢
        clear hrg hdv hv
        have hcs := wireSized_calls size wb
        cases hsz : sizedB size with
        | false =>
          rw [hsz] at hcs
          have hfin : numOf s size sign = none := by rw [numOf, HDV.out]; simp [hsz]
          have HF := Lib.hid hfin
          clear hsz hfin
          go_wp2_with fail
          refine hcs.mono ?_
          rintro e w' ⟨rfl, rfl⟩
          go_wp2
          go_ret2
          exact ⟨by rw [HF.out]; rfl, hB0⟩
        | true =>
          rw [hsz] at hcs
          have hdl := digits_lt s (by rw [← HD.out]; exact hz0)
          rw [← HD.out] at hdl
          have hs4 := sized_cases size hsz
          have HSZ := Lib.hid hsz
          have hds : d.size ≤ s.size := by rw [HD.out, digits, piece_size _ _ _ (Nat.le_refl _)]; omega
          have hvM : v ≤ 18446744073709551615 := by have := hval.out; unfold U64M at this; exact this
          clear hsz
          cases hm : hasMinus s with
          | true =>
            have hlt := hdl.1 hm
            have hnum : numOf s size sign = if sign = true ∧ v ≤ halfOf size then some (IntKind.u64.wrap (-v)) else none := by
              rw [numOf, HDV.out]; simp only []; rw [if_neg (by rw [HSZ.out]; simp), if_pos hm]
            have HNUM := Lib.hid hnum
            clear hdl hm hnum
            cases sign with
            | false =>
              have HF := Lib.hid (show numOf s size false = none by rw [HNUM.out, if_neg (fun h => by cases h.1)])
              rcases hs4 with rfl | rfl | rfl | rfl
              all_goals
                go_wp2_with fail
                refine hcs.mono ?_
                rintro e w' ⟨rfl, rfl⟩
                go_wp2
                go_ret2
                exact ⟨by rw [HF.out]; rfl, hB0⟩
            | true =>
              by_cases hh : v ≤ halfOf size
              · have HF := Lib.hid (show numOf s size true = some (IntKind.u64.wrap (-v)) by rw [HNUM.out, if_pos ⟨rfl, hh⟩])
                rcases hs4 with rfl | rfl | rfl | rfl
                · have hh' : v ≤ 128 := hh
                  clear hh
                  go_wp2_with fail
                  refine hcs.mono ?_
                  rintro e w' ⟨rfl, rfl⟩
                  go_wp2
                  go_ret2
                  exact ⟨by rw [HF.out]; rfl, hB0⟩
                · have hh' : v ≤ 32768 := hh
                  clear hh
                  go_wp2_with fail
                  refine hcs.mono ?_
                  rintro e w' ⟨rfl, rfl⟩
                  go_wp2
                  go_ret2
                  exact ⟨by rw [HF.out]; rfl, hB0⟩
                · have hh' : v ≤ 2147483648 := hh
                  clear hh
                  go_wp2_with fail
                  refine hcs.mono ?_
                  rintro e w' ⟨rfl, rfl⟩
                  go_wp2
                  go_ret2
                  exact ⟨by rw [HF.out]; rfl, hB0⟩
                · have hh' : v ≤ 9223372036854775808 := hh
                  clear hh
                  go_wp2_with fail
                  refine hcs.mono ?_
                  rintro e w' ⟨rfl, rfl⟩
                  go_wp2
                  go_ret2
                  exact ⟨by rw [HF.out]; rfl, hB0⟩
              · have HF := Lib.hid (show numOf s size true = none by rw [HNUM.out, if_neg (fun h => hh h.2)])
                rcases hs4 with rfl | rfl | rfl | rfl
                · have hh' : 128 < v := Int.not_le.1 hh
                  clear hh
                  go_wp2_with fail
                  refine hcs.mono ?_
                  rintro e w' ⟨rfl, rfl⟩
                  go_wp2
                  go_ret2
                  exact ⟨by rw [HF.out]; rfl, hB0⟩
                · have hh' : 32768 < v := Int.not_le.1 hh
                  clear hh
                  go_wp2_with fail
                  refine hcs.mono ?_
                  rintro e w' ⟨rfl, rfl⟩
                  go_wp2
                  go_ret2
                  exact ⟨by rw [HF.out]; rfl, hB0⟩
                · have hh' : 2147483648 < v := Int.not_le.1 hh
                  clear hh
                  go_wp2_with fail
                  refine hcs.mono ?_
                  rintro e w' ⟨rfl, rfl⟩
                  go_wp2
                  go_ret2
                  exact ⟨by rw [HF.out]; rfl, hB0⟩
                · have hh' : 9223372036854775808 < v := Int.not_le.1 hh
                  clear hh
                  go_wp2_with fail
                  refine hcs.mono ?_
                  rintro e w' ⟨rfl, rfl⟩
                  go_wp2
                  go_ret2
                  exact ⟨by rw [HF.out]; rfl, hB0⟩
          | false =>
            have hlt := hdl.2 hm
            have hnlt : ¬ d.size < s.size := by omega
            have hnum : numOf s size sign = if v < (if sign = true then halfOf size else 2 * halfOf size) then some v else none := by
              rw [numOf, HDV.out]; simp only []; rw [if_neg (by rw [HSZ.out]; simp), if_neg (by rw [hm]; simp)]
            have HNUM := Lib.hid hnum
            have HLT := Lib.hid hlt
            clear hdl hm hnum hlt
            cases sign with
            | false =>
              by_cases hh : v < 2 * halfOf size
              · have HF := Lib.hid (show numOf s size false = some v by rw [HNUM.out]; simp only [Bool.false_eq_true, if_false]; rw [if_pos hh])
                rcases hs4 with rfl | rfl | rfl | rfl
                · have hh' : v < 256 := by first | exact hh | exact Int.not_lt.1 hh
                  clear hh
                  go_wp2_with fail
                  refine hcs.mono ?_
                  rintro e w' ⟨rfl, rfl⟩
                  go_wp2
                  go_ret2
                  exact ⟨by rw [HF.out]; rfl, hB0⟩
                · have hh' : v < 65536 := by first | exact hh | exact Int.not_lt.1 hh
                  clear hh
                  go_wp2_with fail
                  refine hcs.mono ?_
                  rintro e w' ⟨rfl, rfl⟩
                  go_wp2
                  go_ret2
                  exact ⟨by rw [HF.out]; rfl, hB0⟩
                · have hh' : v < 4294967296 := by first | exact hh | exact Int.not_lt.1 hh
                  clear hh
                  go_wp2_with fail
                  refine hcs.mono ?_
                  rintro e w' ⟨rfl, rfl⟩
                  go_wp2
                  go_ret2
                  exact ⟨by rw [HF.out]; rfl, hB0⟩
                · have hh' : v < 18446744073709551616 := by first | exact hh | exact Int.not_lt.1 hh
                  clear hh
                  go_wp2_with fail
                  refine hcs.mono ?_
                  rintro e w' ⟨rfl, rfl⟩
                  go_wp2
                  go_ret2
                  exact ⟨by rw [HF.out]; rfl, hB0⟩
              · have HF := Lib.hid (show numOf s size false = none by rw [HNUM.out]; simp only [Bool.false_eq_true, if_false]; rw [if_neg hh])
                rcases hs4 with rfl | rfl | rfl | rfl
                · have hh' : 256 ≤ v := by first | exact hh | exact Int.not_lt.1 hh
                  clear hh
                  go_wp2_with fail
                  refine hcs.mono ?_
                  rintro e w' ⟨rfl, rfl⟩
                  go_wp2
                  go_ret2
                  exact ⟨by rw [HF.out]; rfl, hB0⟩
                · have hh' : 65536 ≤ v := by first | exact hh | exact Int.not_lt.1 hh
                  clear hh
                  go_wp2_with fail
                  refine hcs.mono ?_
                  rintro e w' ⟨rfl, rfl⟩
                  go_wp2
                  go_ret2
                  exact ⟨by rw [HF.out]; rfl, hB0⟩
                · have hh' : 4294967296 ≤ v := by first | exact hh | exact Int.not_lt.1 hh
                  clear hh
                  go_wp2_with fail
                  refine hcs.mono ?_
                  rintro e w' ⟨rfl, rfl⟩
                  go_wp2
                  go_ret2
                  exact ⟨by rw [HF.out]; rfl, hB0⟩
                · have hh' : 18446744073709551616 ≤ v := by first | exact hh | exact Int.not_lt.1 hh
                  exfalso; omega
            | true =>
              by_cases hh : v < halfOf size
              · have HF := Lib.hid (show numOf s size true = some v by rw [HNUM.out]; simp only [if_true]; rw [if_pos hh])
                rcases hs4 with rfl | rfl | rfl | rfl
                · have hh' : v < 128 := by first | exact hh | exact Int.not_lt.1 hh
                  clear hh
                  go_wp2_with fail
                  refine hcs.mono ?_
                  rintro e w' ⟨rfl, rfl⟩
                  go_wp2
                  go_ret2
                  exact ⟨by rw [HF.out]; rfl, hB0⟩
                · have hh' : v < 32768 := by first | exact hh | exact Int.not_lt.1 hh
                  clear hh
                  go_wp2_with fail
                  refine hcs.mono ?_
                  rintro e w' ⟨rfl, rfl⟩
                  go_wp2
                  go_ret2
                  exact ⟨by rw [HF.out]; rfl, hB0⟩
                · have hh' : v < 2147483648 := by first | exact hh | exact Int.not_lt.1 hh
                  clear hh
                  go_wp2_with fail
                  refine hcs.mono ?_
                  rintro e w' ⟨rfl, rfl⟩
                  go_wp2
                  go_ret2
                  exact ⟨by rw [HF.out]; rfl, hB0⟩
                · have hh' : v < 9223372036854775808 := by first | exact hh | exact Int.not_lt.1 hh
                  clear hh
                  go_wp2_with fail
                  refine hcs.mono ?_
                  rintro e w' ⟨rfl, rfl⟩
                  go_wp2
                  go_ret2
                  exact ⟨by rw [HF.out]; rfl, hB0⟩
              · have HF := Lib.hid (show numOf s size true = none by rw [HNUM.out]; simp only [if_true]; rw [if_neg hh])
                rcases hs4 with rfl | rfl | rfl | rfl
                · have hh' : 128 ≤ v := by first | exact hh | exact Int.not_lt.1 hh
                  clear hh
                  go_wp2_with fail
                  refine hcs.mono ?_
                  rintro e w' ⟨rfl, rfl⟩
                  go_wp2
                  go_ret2
                  exact ⟨by rw [HF.out]; rfl, hB0⟩
                · have hh' : 32768 ≤ v := by first | exact hh | exact Int.not_lt.1 hh
                  clear hh
                  go_wp2_with fail
                  refine hcs.mono ?_
                  rintro e w' ⟨rfl, rfl⟩
                  go_wp2
                  go_ret2
                  exact ⟨by rw [HF.out]; rfl, hB0⟩
                · have hh' : 2147483648 ≤ v := by first | exact hh | exact Int.not_lt.1 hh
                  clear hh
                  go_wp2_with fail
                  refine hcs.mono ?_
                  rintro e w' ⟨rfl, rfl⟩
                  go_wp2
                  go_ret2
                  exact ⟨by rw [HF.out]; rfl, hB0⟩
                · have hh' : 9223372036854775808 ≤ v := by first | exact hh | exact Int.not_lt.1 hh
                  clear hh
                  go_wp2_with fail
                  refine hcs.mono ?_
                  rintro e w' ⟨rfl, rfl⟩
                  go_wp2
                  go_ret2
                  exact ⟨by rw [HF.out]; rfl, hB0⟩

end Go.Proofs.YtejpjclbeogajaaDoor
