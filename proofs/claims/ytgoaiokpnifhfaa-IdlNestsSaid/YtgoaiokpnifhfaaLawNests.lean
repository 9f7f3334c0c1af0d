/-
  IdlNests: the walk.
-/
import Derived.Test.YtgoaiokpnifhfaaAwake04
import Derived.OpenShut
namespace Go.Proofs.Ytgoaiokpnifhfaa
open Go.RowKit
set_option linter.unusedVariables false
set_option linter.unusedSimpArgs false

set_option maxHeartbeats 4000000 in
set_option maxRecDepth 100000 in
theorem idlNests_walk (n : Int) (w : World) (hz : (Lit.int .u8 n).wf = true) :
    Calls Try.prog 4 #[.int .u8 n] w fun e w' => e = .returned (.bool true) ∧ Below w.heap.size w w' := by
  have hn0 : 0 ≤ n ∧ n < 256 := by
    obtain ⟨a, b⟩ := bounds_u8 hz
    omega
  obtain ⟨m, rfl⟩ := Int.eq_ofNat_of_zero_le hn0.1
  have hm : (m : Int) ≤ 255 := by omega
  obtain ⟨k, hk⟩ : ∃ k, k = m % 7 := ⟨_, rfl⟩
  have hk7 : k < 7 := by omega
  have hmk : (m : Int) % 7 = (k : Int) := by omega
  have hkI : (k : Int) ≤ 6 := by omega
  have HOK := Lib.hid (nest_ok k hk7)
  clear hz hn0 hk
  go_enter Try.func4, Try.ntmps4
  go_wp2_with (first | (go_at_call 6; refine (awake04_calls _).mono ?_; rintro e wB ⟨rfl, hB⟩; have hzB := hB.size; (try simp only [World.size_alloc, World.size_setCell, World.size_drew] at hzB); obtain ⟨hcB, hfB⟩ := bcell hB))
  have HB := Lib.hid hB
  clear hB hcB hfB
  go_loop [4, 13] (fun v4 v13 => ∃ j : Nat, j ≤ k ∧ v4 = .string (repS nsList j nsBase) ∧ v13 = .int .i64 (j : Int)) (fun _ v13 => k - (intOf v13).toNat)
  case atStart => exact ⟨0, by omega, rfl, rfl⟩
  case round =>
    obtain ⟨j, hj, rfl, rfl⟩ := hrel
    have hsz := repS_size nsList nsBase j
    have hsz2 : (repS nsList j nsBase).size ≤ 100 := by rw [hsz, show nsList.size = 5 from rfl, show nsBase.size = 14 from rfl]; omega
    by_cases hjk : j < k
    · have dj : decide ((j : Int) < (k : Int)) = true := decide_eq_true (by omega)
      obtain ⟨X, hX⟩ : ∃ X, X = repS nsList j nsBase := ⟨_, rfl⟩
      rw [← hX] at hsz2 ⊢
      have HX := Lib.hid hX
      clear hX hsz
      go_wp2_with fail
      go_round
      case rel => exact ⟨j + 1, by omega, by rw [HX.out]; rfl, by go_num⟩
      case measure => simp [intOf]; omega
    · have dj : decide ((j : Int) < (k : Int)) = false := decide_eq_false (by omega)
      obtain rfl : j = k := by omega
      obtain ⟨X, hX⟩ : ∃ X, X = repS nsList j nsBase := ⟨_, rfl⟩
      rw [← hX] at hsz2 ⊢
      have HX := Lib.hid hX
      clear hX hsz
      go_wp2_with fail
      go_loop [4, 21] (fun v4 v21 => ∃ i : Nat, i ≤ j ∧ v4 = .string (repS nsGt i (X ++ nsU8)) ∧ v21 = .int .i64 (i : Int)) (fun _ v21 => j - (intOf v21).toNat)
      case atStart => exact ⟨0, by omega, rfl, rfl⟩
      case round =>
        obtain ⟨i, hi, rfl, rfl⟩ := hrel
        have hsy := repS_size nsGt (X ++ nsU8) i
        have hsy2 : (repS nsGt i (X ++ nsU8)).size ≤ 200 := by rw [hsy, ByteArray.size_append, show nsGt.size = 1 from rfl, show nsU8.size = 2 from rfl]; omega
        by_cases hij : i < j
        · have di : decide ((i : Int) < (j : Int)) = true := decide_eq_true (by omega)
          obtain ⟨Y, hY⟩ : ∃ Y, Y = repS nsGt i (X ++ nsU8) := ⟨_, rfl⟩
          rw [← hY] at hsy2 ⊢
          have HY := Lib.hid hY
          clear hY hsy
          go_wp2_with fail
          go_round
          case rel => exact ⟨i + 1, by omega, by rw [HY.out]; rfl, by go_num⟩
          case measure => simp [intOf]; omega
        · have di : decide ((i : Int) < (j : Int)) = false := decide_eq_false (by omega)
          obtain rfl : i = j := by omega
          obtain ⟨Y, hY⟩ : ∃ Y, Y = repS nsGt i (X ++ nsU8) := ⟨_, rfl⟩
          rw [← hY] at hsy2 ⊢
          have HTX := Lib.hid (show nestT i = Y ++ ⟨#[59, 32, 125]⟩ by rw [hY, HX.out]; rfl)
          have hp := fun (W : World) => parse_calls (Y ++ ⟨#[59, 32, 125]⟩) W (by rw [ByteArray.size_append, show (⟨#[59, 32, 125]⟩ : ByteArray).size = 3 from rfl]; omega)
          rw [← HTX.out] at hp
          have hnk := HOK.out
          by_cases h3 : 3 < i
          · have d3 : decide ((3 : Int) < (i : Int)) = true := decide_eq_true (by omega)
            rw [nestOk, if_pos h3] at hnk
            rw [faultOf_some (eq_of_beq hnk)] at hp
            rw [HTX.out] at hp
            unfold ParsePost at hp
            have HP := Lib.hid hp
            clear hp hnk hY h3 hsy
            go_wp2_with fail
            refine (HP.out wB).mono ?_
            rintro e w2 ⟨hB2, rfl⟩
            have HB2 := Lib.hid (HB.out.trans (hB2.mono HB.out.size))
            clear hB2
            go_wp2_with fail
            go_ret
            refine ⟨rfl, ?_⟩
            have hB := HB2.out
            have hz := hB.size
            (repeat' (first | (with_reducible exact Below.refl _ _) | (with_reducible assumption) | (with_reducible refine below_drewN ?_ _) | (with_reducible refine Below.alloc ?_ ?_ _) | (with_reducible refine Below.drew ?_) | (with_reducible refine Below.setCell ?_ ?_ _) | (with_reducible refine Below.trans ?_ (Below.mono (by assumption) ?_)) | go_size))
          · have d3 : decide ((3 : Int) < (i : Int)) = false := decide_eq_false (by omega)
            rw [nestOk, if_neg h3] at hnk
            obtain ⟨r, x, xs, f, fs, ho, hr, hx, ha, hb, hc, hd⟩ := firstOf_some (eq_of_beq hnk)
            rw [ho] at hp
            rw [HTX.out] at hp
            unfold ParsePost at hp
            have HP := Lib.hid hp
            have HR := Lib.hid hr
            have HX2 := Lib.hid hx
            have HA := Lib.hid ha
            have HB1 := Lib.hid hb
            have HC := Lib.hid hc
            have hnm : f.ty.name = ⟨#[117, 56]⟩ := by
              have := (eqS_iff f.ty.name ⟨#[117, 56]⟩).1 (by rw [eqS, hd]; rfl)
              exact this
            have HNM := Lib.hid hnm
            clear hp hnk hY h3 hsy hr hx ha hb hc hd ho hnm
            go_wp2_with fail
            refine (HP.out wB).mono ?_
            rintro e w2 ⟨hB2, vs, ve, vr, rfl, hraw⟩
            obtain ⟨q1, c1, q2, c2, a2, d2, a3, d3', rfl, rfl, rfl, k1, k2, k3, l1, l2⟩ := raw_first hraw HR.out HX2.out
            rw [HA.out]
            rw [HB1.out] at k1
            rw [HNM.out] at k2
            rw [HC.out] at k3
            obtain ⟨ne, hne⟩ : ∃ n, n = r.enums.length := ⟨_, rfl⟩
            obtain ⟨nr, hnr⟩ : ∃ n, n = r.roots.length := ⟨_, rfl⟩
            rw [← hne, ← hnr]
            have HB2 := Lib.hid (HB.out.trans (hB2.mono HB.out.size))
            clear hB2 hraw hne hnr
            go_wp2_with fail
            go_ret
            refine ⟨rfl, ?_⟩
            have hB := HB2.out
            have hz := hB.size
            (repeat' (first | (with_reducible exact Below.refl _ _) | (with_reducible assumption) | (with_reducible refine below_drewN ?_ _) | (with_reducible refine Below.alloc ?_ ?_ _) | (with_reducible refine Below.drew ?_) | (with_reducible refine Below.setCell ?_ ?_ _) | (with_reducible refine Below.trans ?_ (Below.mono (by assumption) ?_)) | go_size))

end Go.Proofs.Ytgoaiokpnifhfaa
