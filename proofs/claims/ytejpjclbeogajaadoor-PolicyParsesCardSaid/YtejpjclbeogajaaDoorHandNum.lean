/-
  The document's maker of schemas: numbers of types.
-/
import Derived.Test.YtejpjclbeogajaaDoorHand
namespace Go.Proofs.YtejpjclbeogajaaDoor
open Go.RowKit
set_option linter.unusedVariables false
set_option linter.unusedSimpArgs false

set_option maxHeartbeats 1000000 in
set_option maxRecDepth 100000 in
theorem number1_calls (vs : Value) (A : Option Addr) (ne ce : Nat) (names root ref lists n : Int) (h0 : 0 ≤ n) (h1 : n < 18446744073709551616) (w : World) :
    Calls Tryd.prog 31 #[.agg #[vs, .slice A ne ce, .int .i64 root], .agg #[.int .u8 1, .int .i64 ref, .int .i64 lists], .int .u64 n] w fun e w' => e = .returned (.int .u64 (numberOf names 1 n)) ∧ Below w.heap.size w w' := by
  have hS : kindSize 1 = 1 := by decide
  have hcS := fun W => refSize_calls 1 W
  rw [hS] at hcS
  clear hS
  go_enter Tryd.func31, Tryd.ntmps31
  go_wp2_with (first | (go_at_call 67; refine (hcS _).mono ?_; rintro e w' ⟨rfl, rfl⟩))
  go_ret
  exact ⟨by simp [numberOf], by (repeat' (first | (with_reducible exact Below.refl _ _) | (with_reducible assumption) | (with_reducible refine Below.alloc ?_ ?_ _) | (with_reducible refine Below.drew ?_) | (with_reducible refine Below.setCell ?_ ?_ _) | (with_reducible refine Below.trans ?_ (Below.mono (by assumption) ?_)) | go_size))⟩

set_option maxHeartbeats 1000000 in
set_option maxRecDepth 100000 in
theorem number2_calls (vs : Value) (A : Option Addr) (ne ce : Nat) (names root ref lists n : Int) (h0 : 0 ≤ n) (h1 : n < 18446744073709551616) (w : World) :
    Calls Tryd.prog 31 #[.agg #[vs, .slice A ne ce, .int .i64 root], .agg #[.int .u8 2, .int .i64 ref, .int .i64 lists], .int .u64 n] w fun e w' => e = .returned (.int .u64 (numberOf names 2 n)) ∧ Below w.heap.size w w' := by
  have hS : kindSize 2 = 1 := by decide
  have hcS := fun W => refSize_calls 2 W
  rw [hS] at hcS
  clear hS
  have hcG := fun W => refSign_calls 2 W
  rw [show (decide ((2 : Int) ≤ 2) && decide ((2 : Int) ≤ 5)) = true from by decide] at hcG
  have hcD := fun W => refSigned1_calls (n % 256) (by omega) (by omega) W
  go_enter Tryd.func31, Tryd.ntmps31
  go_wp2_with (first | (go_at_call 67; refine (hcS _).mono ?_; rintro e w' ⟨rfl, rfl⟩) | (go_at_call 68; refine (hcG _).mono ?_; rintro e w' ⟨rfl, rfl⟩) | (go_at_call 69; refine (hcD _).mono ?_; rintro e w' ⟨rfl, rfl⟩))
  go_ret
  exact ⟨by simp [numberOf], by (repeat' (first | (with_reducible exact Below.refl _ _) | (with_reducible assumption) | (with_reducible refine Below.alloc ?_ ?_ _) | (with_reducible refine Below.drew ?_) | (with_reducible refine Below.setCell ?_ ?_ _) | (with_reducible refine Below.trans ?_ (Below.mono (by assumption) ?_)) | go_size))⟩

set_option maxHeartbeats 1000000 in
set_option maxRecDepth 100000 in
theorem number3_calls (vs : Value) (A : Option Addr) (ne ce : Nat) (names root ref lists n : Int) (h0 : 0 ≤ n) (h1 : n < 18446744073709551616) (w : World) :
    Calls Tryd.prog 31 #[.agg #[vs, .slice A ne ce, .int .i64 root], .agg #[.int .u8 3, .int .i64 ref, .int .i64 lists], .int .u64 n] w fun e w' => e = .returned (.int .u64 (numberOf names 3 n)) ∧ Below w.heap.size w w' := by
  have hS : kindSize 3 = 2 := by decide
  have hcS := fun W => refSize_calls 3 W
  rw [hS] at hcS
  clear hS
  have hcG := fun W => refSign_calls 3 W
  rw [show (decide ((2 : Int) ≤ 3) && decide ((3 : Int) ≤ 5)) = true from by decide] at hcG
  have hcD := fun W => refSigned2_calls (n % 65536) (by omega) (by omega) W
  go_enter Tryd.func31, Tryd.ntmps31
  go_wp2_with (first | (go_at_call 67; refine (hcS _).mono ?_; rintro e w' ⟨rfl, rfl⟩) | (go_at_call 68; refine (hcG _).mono ?_; rintro e w' ⟨rfl, rfl⟩) | (go_at_call 69; refine (hcD _).mono ?_; rintro e w' ⟨rfl, rfl⟩))
  go_ret
  exact ⟨by simp [numberOf], by (repeat' (first | (with_reducible exact Below.refl _ _) | (with_reducible assumption) | (with_reducible refine Below.alloc ?_ ?_ _) | (with_reducible refine Below.drew ?_) | (with_reducible refine Below.setCell ?_ ?_ _) | (with_reducible refine Below.trans ?_ (Below.mono (by assumption) ?_)) | go_size))⟩

set_option maxHeartbeats 1000000 in
set_option maxRecDepth 100000 in
theorem number4_calls (vs : Value) (A : Option Addr) (ne ce : Nat) (names root ref lists n : Int) (h0 : 0 ≤ n) (h1 : n < 18446744073709551616) (w : World) :
    Calls Tryd.prog 31 #[.agg #[vs, .slice A ne ce, .int .i64 root], .agg #[.int .u8 4, .int .i64 ref, .int .i64 lists], .int .u64 n] w fun e w' => e = .returned (.int .u64 (numberOf names 4 n)) ∧ Below w.heap.size w w' := by
  have hS : kindSize 4 = 4 := by decide
  have hcS := fun W => refSize_calls 4 W
  rw [hS] at hcS
  clear hS
  have hcG := fun W => refSign_calls 4 W
  rw [show (decide ((2 : Int) ≤ 4) && decide ((4 : Int) ≤ 5)) = true from by decide] at hcG
  have hcD := fun W => refSigned4_calls (n % 4294967296) (by omega) (by omega) W
  go_enter Tryd.func31, Tryd.ntmps31
  go_wp2_with (first | (go_at_call 67; refine (hcS _).mono ?_; rintro e w' ⟨rfl, rfl⟩) | (go_at_call 68; refine (hcG _).mono ?_; rintro e w' ⟨rfl, rfl⟩) | (go_at_call 69; refine (hcD _).mono ?_; rintro e w' ⟨rfl, rfl⟩))
  go_ret
  exact ⟨by simp [numberOf], by (repeat' (first | (with_reducible exact Below.refl _ _) | (with_reducible assumption) | (with_reducible refine Below.alloc ?_ ?_ _) | (with_reducible refine Below.drew ?_) | (with_reducible refine Below.setCell ?_ ?_ _) | (with_reducible refine Below.trans ?_ (Below.mono (by assumption) ?_)) | go_size))⟩

set_option maxHeartbeats 1000000 in
set_option maxRecDepth 100000 in
theorem number5_calls (vs : Value) (A : Option Addr) (ne ce : Nat) (names root ref lists n : Int) (h0 : 0 ≤ n) (h1 : n < 18446744073709551616) (w : World) :
    Calls Tryd.prog 31 #[.agg #[vs, .slice A ne ce, .int .i64 root], .agg #[.int .u8 5, .int .i64 ref, .int .i64 lists], .int .u64 n] w fun e w' => e = .returned (.int .u64 (numberOf names 5 n)) ∧ Below w.heap.size w w' := by
  have hS : kindSize 5 = 8 := by decide
  have hcS := fun W => refSize_calls 5 W
  rw [hS] at hcS
  clear hS
  have hcG := fun W => refSign_calls 5 W
  rw [show (decide ((2 : Int) ≤ 5) && decide ((5 : Int) ≤ 5)) = true from by decide] at hcG
  have hcD := fun W => refSigned8_calls n W
  go_enter Tryd.func31, Tryd.ntmps31
  go_wp2_with (first | (go_at_call 67; refine (hcS _).mono ?_; rintro e w' ⟨rfl, rfl⟩) | (go_at_call 68; refine (hcG _).mono ?_; rintro e w' ⟨rfl, rfl⟩) | (go_at_call 69; refine (hcD _).mono ?_; rintro e w' ⟨rfl, rfl⟩))
  go_ret
  exact ⟨by simp [numberOf], by (repeat' (first | (with_reducible exact Below.refl _ _) | (with_reducible assumption) | (with_reducible refine Below.alloc ?_ ?_ _) | (with_reducible refine Below.drew ?_) | (with_reducible refine Below.setCell ?_ ?_ _) | (with_reducible refine Below.trans ?_ (Below.mono (by assumption) ?_)) | go_size))⟩

set_option maxHeartbeats 1000000 in
set_option maxRecDepth 100000 in
theorem number6_calls (vs : Value) (A : Option Addr) (ne ce : Nat) (names root ref lists n : Int) (h0 : 0 ≤ n) (h1 : n < 18446744073709551616) (w : World) :
    Calls Tryd.prog 31 #[.agg #[vs, .slice A ne ce, .int .i64 root], .agg #[.int .u8 6, .int .i64 ref, .int .i64 lists], .int .u64 n] w fun e w' => e = .returned (.int .u64 (numberOf names 6 n)) ∧ Below w.heap.size w w' := by
  have hS : kindSize 6 = 1 := by decide
  have hcS := fun W => refSize_calls 6 W
  rw [hS] at hcS
  clear hS
  have hcG := fun W => refSign_calls 6 W
  rw [show (decide ((2 : Int) ≤ 6) && decide ((6 : Int) ≤ 5)) = false from by decide] at hcG
  go_enter Tryd.func31, Tryd.ntmps31
  go_wp2_with (first | (go_at_call 67; refine (hcS _).mono ?_; rintro e w' ⟨rfl, rfl⟩) | (go_at_call 68; refine (hcG _).mono ?_; rintro e w' ⟨rfl, rfl⟩))
  go_ret
  exact ⟨by simp [numberOf], by (repeat' (first | (with_reducible exact Below.refl _ _) | (with_reducible assumption) | (with_reducible refine Below.alloc ?_ ?_ _) | (with_reducible refine Below.drew ?_) | (with_reducible refine Below.setCell ?_ ?_ _) | (with_reducible refine Below.trans ?_ (Below.mono (by assumption) ?_)) | go_size))⟩

set_option maxHeartbeats 1000000 in
set_option maxRecDepth 100000 in
theorem number7_calls (vs : Value) (A : Option Addr) (ne ce : Nat) (names root ref lists n : Int) (h0 : 0 ≤ n) (h1 : n < 18446744073709551616) (w : World) :
    Calls Tryd.prog 31 #[.agg #[vs, .slice A ne ce, .int .i64 root], .agg #[.int .u8 7, .int .i64 ref, .int .i64 lists], .int .u64 n] w fun e w' => e = .returned (.int .u64 (numberOf names 7 n)) ∧ Below w.heap.size w w' := by
  have hS : kindSize 7 = 2 := by decide
  have hcS := fun W => refSize_calls 7 W
  rw [hS] at hcS
  clear hS
  have hcG := fun W => refSign_calls 7 W
  rw [show (decide ((2 : Int) ≤ 7) && decide ((7 : Int) ≤ 5)) = false from by decide] at hcG
  go_enter Tryd.func31, Tryd.ntmps31
  go_wp2_with (first | (go_at_call 67; refine (hcS _).mono ?_; rintro e w' ⟨rfl, rfl⟩) | (go_at_call 68; refine (hcG _).mono ?_; rintro e w' ⟨rfl, rfl⟩))
  go_ret
  exact ⟨by simp [numberOf], by (repeat' (first | (with_reducible exact Below.refl _ _) | (with_reducible assumption) | (with_reducible refine Below.alloc ?_ ?_ _) | (with_reducible refine Below.drew ?_) | (with_reducible refine Below.setCell ?_ ?_ _) | (with_reducible refine Below.trans ?_ (Below.mono (by assumption) ?_)) | go_size))⟩

set_option maxHeartbeats 1000000 in
set_option maxRecDepth 100000 in
theorem number8_calls (vs : Value) (A : Option Addr) (ne ce : Nat) (names root ref lists n : Int) (h0 : 0 ≤ n) (h1 : n < 18446744073709551616) (w : World) :
    Calls Tryd.prog 31 #[.agg #[vs, .slice A ne ce, .int .i64 root], .agg #[.int .u8 8, .int .i64 ref, .int .i64 lists], .int .u64 n] w fun e w' => e = .returned (.int .u64 (numberOf names 8 n)) ∧ Below w.heap.size w w' := by
  have hS : kindSize 8 = 4 := by decide
  have hcS := fun W => refSize_calls 8 W
  rw [hS] at hcS
  clear hS
  have hcG := fun W => refSign_calls 8 W
  rw [show (decide ((2 : Int) ≤ 8) && decide ((8 : Int) ≤ 5)) = false from by decide] at hcG
  go_enter Tryd.func31, Tryd.ntmps31
  go_wp2_with (first | (go_at_call 67; refine (hcS _).mono ?_; rintro e w' ⟨rfl, rfl⟩) | (go_at_call 68; refine (hcG _).mono ?_; rintro e w' ⟨rfl, rfl⟩))
  go_ret
  exact ⟨by simp [numberOf], by (repeat' (first | (with_reducible exact Below.refl _ _) | (with_reducible assumption) | (with_reducible refine Below.alloc ?_ ?_ _) | (with_reducible refine Below.drew ?_) | (with_reducible refine Below.setCell ?_ ?_ _) | (with_reducible refine Below.trans ?_ (Below.mono (by assumption) ?_)) | go_size))⟩

set_option maxHeartbeats 1000000 in
set_option maxRecDepth 100000 in
theorem number9_calls (vs : Value) (A : Option Addr) (ne ce : Nat) (names root ref lists n : Int) (h0 : 0 ≤ n) (h1 : n < 18446744073709551616) (w : World) :
    Calls Tryd.prog 31 #[.agg #[vs, .slice A ne ce, .int .i64 root], .agg #[.int .u8 9, .int .i64 ref, .int .i64 lists], .int .u64 n] w fun e w' => e = .returned (.int .u64 (numberOf names 9 n)) ∧ Below w.heap.size w w' := by
  have hS : kindSize 9 = 8 := by decide
  have hcS := fun W => refSize_calls 9 W
  rw [hS] at hcS
  clear hS
  have hcG := fun W => refSign_calls 9 W
  rw [show (decide ((2 : Int) ≤ 9) && decide ((9 : Int) ≤ 5)) = false from by decide] at hcG
  go_enter Tryd.func31, Tryd.ntmps31
  go_wp2_with (first | (go_at_call 67; refine (hcS _).mono ?_; rintro e w' ⟨rfl, rfl⟩) | (go_at_call 68; refine (hcG _).mono ?_; rintro e w' ⟨rfl, rfl⟩))
  go_ret
  exact ⟨by simp [numberOf], by (repeat' (first | (with_reducible exact Below.refl _ _) | (with_reducible assumption) | (with_reducible refine Below.alloc ?_ ?_ _) | (with_reducible refine Below.drew ?_) | (with_reducible refine Below.setCell ?_ ?_ _) | (with_reducible refine Below.trans ?_ (Below.mono (by assumption) ?_)) | go_size))⟩

set_option maxHeartbeats 1000000 in
set_option maxRecDepth 100000 in
theorem number10_calls (vs : Value) (b o ne ce : Nat) (names : Nat) (vn : Option Addr) (cn : Nat) (root : Int) (r : Nat) (lists n : Int) (h0 : 0 ≤ n) (h1 : n < 18446744073709551616) (hr : r < ne) (hn0 : 0 < names) (hn1 : names < 1000) (w : World) (hb : b < w.heap.size)
    (hc : w.cell? ⟨b, o + r * 2 + 1, none⟩ = some (.slice vn names cn)) :
    Calls Tryd.prog 31 #[.agg #[vs, .slice (some ⟨b, o, none⟩) ne ce, .int .i64 root], .agg #[.int .u8 10, .int .i64 (r : Int), .int .i64 lists], .int .u64 n] w fun e w' => e = .returned (.int .u64 (numberOf (names : Int) 10 n)) ∧ Below w.heap.size w w' := by
  have hS : kindSize 10 = 1 := by decide
  have hcS := fun W => refSize_calls 10 W
  rw [hS] at hcS
  clear hS
  have hrI : (r : Int) < (ne : Int) := by omega
  have hnI : (0 : Int) < (names : Int) := by omega
  have hnI' : (names : Int) < 1000 := by omega
  have hnz : ((names : Int) == 0) = false := by rw [beq_eq_false_iff_ne]; omega
  go_enter Tryd.func31, Tryd.ntmps31
  go_wp2_with (first | (go_at_call 67; refine (hcS _).mono ?_; rintro e w' ⟨rfl, rfl⟩))
  go_ret
  exact ⟨by simp [numberOf], by (repeat' (first | (with_reducible exact Below.refl _ _) | (with_reducible assumption) | (with_reducible refine Below.alloc ?_ ?_ _) | (with_reducible refine Below.drew ?_) | (with_reducible refine Below.setCell ?_ ?_ _) | (with_reducible refine Below.trans ?_ (Below.mono (by assumption) ?_)) | go_size))⟩

end Go.Proofs.YtejpjclbeogajaaDoor
