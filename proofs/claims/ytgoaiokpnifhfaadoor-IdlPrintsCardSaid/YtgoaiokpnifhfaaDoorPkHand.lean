/-
  Parts: Hand, HandNum, Plan.
-/
import Derived.Test.YtgoaiokpnifhfaaDoorSameInts
import Derived.Deep.RegionHeld3
import Derived.Deep.AppendLies
import Derived.StillTailTactics
import Derived.Laws.BytesString
import Derived.IntWalk
import Derived.Laws.Cover4

/-
  How schemas are made out of small numbers: labels, numbers.
-/
namespace Go.Proofs.YtgoaiokpnifhfaaDoor
open Go.RowKit
set_option linter.unusedVariables false
set_option linter.unusedSimpArgs false

def labelHead : Nat → ByteArray
  | 0 => ⟨#[97]⟩ | 1 => ⟨#[120, 95]⟩ | 2 => ⟨#[90, 101, 100]⟩ | 3 => ⟨#[195, 169]⟩ | 4 => ⟨#[239, 172, 128]⟩ | 5 => ⟨#[240, 159, 152, 128]⟩
  | 6 => ⟨#[108, 105, 115, 116]⟩ | 7 => ⟨#[98, 32, 99]⟩ | 8 => ⟨#[115, 116, 114, 117, 99, 116]⟩ | _ => ⟨#[47]⟩

/-- bytes as a text -/
def bytesStr (ns : List Int) : ByteArray := ns.foldl (fun r n => r.push (UInt8.ofNat n.toNat)) ByteArray.empty

theorem conv_bytes (w : World) (b o c : Nat) (ns : List Int) (h : ∀ j, j < ns.length → w.cell? ⟨b, o + j, none⟩ = some (.int .u8 (ns.getD j 0))) :
    (convert 34 9 (.slice (some ⟨b, o, none⟩) ns.length c)).run Tryd.prog w = .ok (.string (bytesStr ns)) w := by
  rw [run_convert_bytes_string w 34 9 5 _ _ _ Tryd.underlying34 Tryd.underlying5 Tryd.underlying9]
  apply run_bytesToString
  rw [run_loadCells w ⟨b, o, none⟩ ns.length (fun j => .int .u8 (ns.getD j 0)) (fun j hj => by rw [Addr.add_lit]; exact h j hj), range_map_take _ ns ns.length (Nat.le_refl _), List.take_length]

theorem conv_byte1 (w : World) (x : Int) (T : TypeId) (W : World) (hW : W.heap[w.heap.size]? = some (.cells #[.int .u8 x] T (0, 0))) :
    (convert 34 9 (.slice (some ⟨w.heap.size, 0, none⟩) 1 1)).run Tryd.prog W = .ok (.string (bytesStr [x])) W := by
  have h := conv_bytes W w.heap.size 0 1 [x] (fun j hj => by
    obtain rfl : j = 0 := by simpa using hj
    rw [blk_cell hW]; rfl)
  simpa using h

/-- a field's name, out of a small number and its place -/
def labelOf (n : Int) (i : Nat) : ByteArray := labelHead (n % 10).toNat ++ bytesStr [97 + ((i % 26 : Nat) : Int)]

theorem heads_cell {w : World} {g : Nat} {T : TypeId} (h : w.heap[g]? = some (.cells #[.string ⟨#[97]⟩, .string ⟨#[120, 95]⟩, .string ⟨#[90, 101, 100]⟩, .string ⟨#[195, 169]⟩, .string ⟨#[239, 172, 128]⟩, .string ⟨#[240, 159, 152, 128]⟩, .string ⟨#[108, 105, 115, 116]⟩, .string ⟨#[98, 32, 99]⟩, .string ⟨#[115, 116, 114, 117, 99, 116]⟩, .string ⟨#[47]⟩] T (0, 0))) (k : Nat) (hk : k < 10) : w.cell? ⟨g, k, none⟩ = some (.string (labelHead k)) := by
  rw [blk_cell h]
  have h0 : k = 0 ∨ k = 1 ∨ k = 2 ∨ k = 3 ∨ k = 4 ∨ k = 5 ∨ k = 6 ∨ k = 7 ∨ k = 8 ∨ k = 9 := by omega
  rcases h0 with rfl | rfl | rfl | rfl | rfl | rfl | rfl | rfl | rfl | rfl <;> rfl

set_option maxHeartbeats 1000000 in
set_option maxRecDepth 100000 in
theorem label_calls (n : Int) (i : Nat) (h0 : 0 ≤ n) (h1 : n < 256) (hi : i < 100) (w : World) :
    Calls Tryd.prog 46 #[.int .u8 n, .int .i64 (i : Int)] w fun e w' => e = .returned (.string (labelOf n i)) ∧ Below w.heap.size w w' := by
  go_enter Tryd.func46, Tryd.ntmps46
  go_wp2_with fail
  have hcell := heads_cell (blk_new w (.cells #[.string ⟨#[97]⟩, .string ⟨#[120, 95]⟩, .string ⟨#[90, 101, 100]⟩, .string ⟨#[195, 169]⟩, .string ⟨#[239, 172, 128]⟩, .string ⟨#[240, 159, 152, 128]⟩, .string ⟨#[108, 105, 115, 116]⟩, .string ⟨#[98, 32, 99]⟩, .string ⟨#[115, 116, 114, 117, 99, 116]⟩, .string ⟨#[47]⟩] 9)) (n % 10).toNat (by omega)
  have hlt : w.heap.size < (w.alloc (.cells #[.string ⟨#[97]⟩, .string ⟨#[120, 95]⟩, .string ⟨#[90, 101, 100]⟩, .string ⟨#[195, 169]⟩, .string ⟨#[239, 172, 128]⟩, .string ⟨#[240, 159, 152, 128]⟩, .string ⟨#[108, 105, 115, 116]⟩, .string ⟨#[98, 32, 99]⟩, .string ⟨#[115, 116, 114, 117, 99, 116]⟩, .string ⟨#[47]⟩] 9)).heap.size := by simp
  have hbel := below1 w (.cells #[.string ⟨#[97]⟩, .string ⟨#[120, 95]⟩, .string ⟨#[90, 101, 100]⟩, .string ⟨#[195, 169]⟩, .string ⟨#[239, 172, 128]⟩, .string ⟨#[240, 159, 152, 128]⟩, .string ⟨#[108, 105, 115, 116]⟩, .string ⟨#[98, 32, 99]⟩, .string ⟨#[115, 116, 114, 117, 99, 116]⟩, .string ⟨#[47]⟩] 9)
  generalize w.alloc (.cells #[.string ⟨#[97]⟩, .string ⟨#[120, 95]⟩, .string ⟨#[90, 101, 100]⟩, .string ⟨#[195, 169]⟩, .string ⟨#[239, 172, 128]⟩, .string ⟨#[240, 159, 152, 128]⟩, .string ⟨#[108, 105, 115, 116]⟩, .string ⟨#[98, 32, 99]⟩, .string ⟨#[115, 116, 114, 117, 99, 116]⟩, .string ⟨#[47]⟩] 9) = W0 at *
  have hi0 : (0 : Int) ≤ (i : Int) := by omega
  have hi1 : (i : Int) < 100 := by omega
  obtain ⟨q, hq⟩ : ∃ q : Nat, (q : Int) = n % 10 := ⟨(n % 10).toNat, by omega⟩
  obtain ⟨r, hr⟩ : ∃ r : Nat, (r : Int) = (i : Int) % 26 := ⟨i % 26, by omega⟩
  have hr' : r = i % 26 := by omega
  have hqn : (n % 10).toNat = q := by omega
  rw [hqn] at hcell
  have e1 : Int.tmod n 10 = (q : Int) := by rw [Int.tmod_eq_emod_of_nonneg h0]; exact hq.symm
  have e2 : Int.tmod (i : Int) 26 = (r : Int) := by rw [Int.tmod_eq_emod_of_nonneg hi0]; exact hr.symm
  have e0 : IntKind.i64.wrap n = n := IntWalk.i64_in _ (by omega)
  have hq1 : (q : Int) < 10 := by omega
  have hr1 : (r : Int) < 26 := by omega
  have e3 : IntKind.i64.wrap (97 + (r : Int)) = 97 + (r : Int) := IntWalk.i64_in _ (by omega)
  have e4 : IntKind.u8.wrap (97 + (r : Int)) = 97 + (r : Int) := IntWalk.u8_in _ (by omega)
  have e5 : IntKind.i64.wrap (q : Int) = (q : Int) := IntWalk.i64_in _ (by omega)
  have e6 : IntKind.i64.wrap (r : Int) = (r : Int) := IntWalk.i64_in _ (by omega)
  have Hq := Lib.hid hqn
  have Hr := Lib.hid hr'
  clear hq hr hr' hqn
  obtain ⟨hd, hhd⟩ : ∃ x, x = labelHead q := ⟨_, rfl⟩
  rw [← hhd] at hcell
  have HHD := Lib.hid hhd
  clear hhd
  obtain ⟨bs, hbs⟩ : ∃ x, x = bytesStr [97 + (r : Int)] := ⟨_, rfl⟩
  have hcv := conv_byte1 W0 (97 + (r : Int)) 5 (W0.alloc (Obj.cells #[Value.int IntKind.u8 (97 + (r : Int))] 5)).drew (blk_new W0 _)
  rw [← hbs] at hcv
  have hbz : bs.size ≤ 1 := by rw [hbs]; exact Nat.le_refl _
  have hdz : hd.size ≤ 6 := by rw [HHD.out]; unfold labelHead; split <;> decide
  have HBS := Lib.hid hbs
  clear hbs
  go_region
  go_wp2
  go_ret
  refine ⟨?_, ?_⟩
  · simp only [labelOf, Hq.out, ← Hr.out, ← HHD.out, ← HBS.out]
    rfl
  · exact (hbel.alloc (by omega) _).drew

set_option maxHeartbeats 400000 in
theorem refSign_calls (k : Int) (w : World) :
    Calls Tryd.prog 103 #[.int .i64 k] w fun e w' => e = .returned (.bool (decide (2 ≤ k) && decide (k ≤ 5))) ∧ w = w' := by
  go_enter Tryd.func103, Tryd.ntmps103
  by_cases h : 2 ≤ k
  all_goals go_wp2
  all_goals go_ret
  all_goals exact ⟨by simp_all <;> omega, rfl⟩

/-- with the sign of so many bytes, in 64 bits -/
def signedOf (n size : Int) : Int :=
  if size = 1 then (if n % 256 < 128 then n % 256 else n % 256 + 18446744073709551360)
  else if size = 2 then (if n % 65536 < 32768 then n % 65536 else n % 65536 + 18446744073709486080)
  else if size = 4 then (if n % 4294967296 < 2147483648 then n % 4294967296 else n % 4294967296 + 18446744069414584320)
  else n

theorem u64_low (n : Int) (k : Nat) (hk : k ≤ 63) (M : Int) (hM : (BitVec.ofInt 64 M).toNat = 2 ^ k - 1) (h0 : 0 ≤ n) (h1 : n < 18446744073709551616) : bits .and .u64 n M = n % ((2 ^ k : Nat) : Int) := by
  have e1 : (BitVec.ofInt 64 n).toNat = n.toNat := by
    rw [BitVec.toNat_ofInt]; simp only [Nat.reducePow, Int.cast_ofNat_Int]; omega
  have key : (BitVec.ofInt 64 n &&& BitVec.ofInt 64 M).toNat = n.toNat % 2 ^ k := by
    rw [BitVec.toNat_and, e1, hM, Nat.and_two_pow_sub_one_eq_mod]
  show IntKind.u64.wrap ((BitVec.ofInt 64 n &&& BitVec.ofInt 64 M).toNat : Nat) = _
  have hp : 2 ^ k ≤ 2 ^ 63 := Nat.pow_le_pow_right (by omega) hk
  have hlt : n.toNat % 2 ^ k < 2 ^ k := Nat.mod_lt _ (Nat.two_pow_pos k)
  rw [key, IntKind.wrap_u64]
  have e2 : n % ((2 ^ k : Nat) : Int) = ((n.toNat % 2 ^ k : Nat) : Int) := by
    rw [Int.natCast_emod]; congr 1; omega
  rw [e2]
  generalize n.toNat % 2 ^ k = m at *
  omega

theorem u64_high (m k : Nat) (hk : k ≤ 63) (hm : m < 2 ^ k) (c : Nat) (hc : 2 ^ k * c < 18446744073709551616) : bits .or .u64 (m : Int) ((2 ^ k * c : Nat) : Int) = ((m + 2 ^ k * c : Nat) : Int) := by
  have hp : 2 ^ k ≤ 2 ^ 63 := Nat.pow_le_pow_right (by omega) hk
  rw [bits_or_u64_nat m (2 ^ k * c) (by omega) hc, Nat.or_comm, ← Nat.two_pow_add_eq_or_of_lt hm]
  congr 1; omega

set_option maxHeartbeats 400000 in
set_option maxRecDepth 100000 in
theorem refSigned1_calls (n : Int) (h0 : 0 ≤ n) (h1 : n < 18446744073709551616) (w : World) :
    Calls Tryd.prog 104 #[.int .u64 n, .int .i64 1] w fun e w' => e = .returned (.int .u64 (signedOf n 1)) ∧ w = w' := by
  have hand := u64_low n 8 (by omega) 255 (by decide) h0 h1
  obtain ⟨m, hm⟩ : ∃ m : Nat, (m : Int) = n % 256 := ⟨(n % 256).toNat, by omega⟩
  have hml : m < 256 := by omega
  have hs : signedOf n 1 = if (m : Int) < 128 then (m : Int) else (m : Int) + 18446744073709551360 := by unfold signedOf; rw [hm]; rfl
  have hand' : bits .and .u64 n 255 = (m : Int) := by rw [hand, hm]; rfl
  have Hs := Lib.hid hs
  have Hl := Lib.hid hml
  have hmI : (m : Int) < 256 := by omega
  clear hs hm hand h0 h1 hml
  by_cases hh : (m : Int) < 128
  · have hb : ((m : Int) / 128 == 1) = false := by rw [beq_eq_false_iff_ne]; omega
    go_enter Tryd.func104, Tryd.ntmps104
    go_wp2
    go_ret
    refine ⟨?_, rfl⟩
    rw [Hs.out, if_pos hh]; rfl
  · have hb : ((m : Int) / 128 == 1) = true := by rw [beq_iff_eq]; omega
    have hor : bits .or .u64 (m : Int) (IntKind.u64.wrap 4722366482869645213440) = (m : Int) + 18446744073709551360 := by
      have h := u64_high m 8 (by omega) Hl.out 72057594037927935 (by omega)
      rw [show (IntKind.u64.wrap 4722366482869645213440) = (((2 ^ 8 * 72057594037927935 : Nat)) : Int) from by decide, h]
      omega
    have Hor := Lib.hid hor
    clear hor
    go_enter Tryd.func104, Tryd.ntmps104
    go_wp2
    go_ret
    refine ⟨?_, rfl⟩
    rw [Hs.out, if_neg (by omega), ← Hor.out]; rfl

set_option maxHeartbeats 400000 in
set_option maxRecDepth 100000 in
theorem refSigned2_calls (n : Int) (h0 : 0 ≤ n) (h1 : n < 18446744073709551616) (w : World) :
    Calls Tryd.prog 104 #[.int .u64 n, .int .i64 2] w fun e w' => e = .returned (.int .u64 (signedOf n 2)) ∧ w = w' := by
  have hand := u64_low n 16 (by omega) 65535 (by decide) h0 h1
  obtain ⟨m, hm⟩ : ∃ m : Nat, (m : Int) = n % 65536 := ⟨(n % 65536).toNat, by omega⟩
  have hml : m < 65536 := by omega
  have hs : signedOf n 2 = if (m : Int) < 32768 then (m : Int) else (m : Int) + 18446744073709486080 := by unfold signedOf; rw [hm]; rfl
  have hand' : bits .and .u64 n 65535 = (m : Int) := by rw [hand, hm]; rfl
  have Hs := Lib.hid hs
  have Hl := Lib.hid hml
  have hmI : (m : Int) < 65536 := by omega
  clear hs hm hand h0 h1 hml
  by_cases hh : (m : Int) < 32768
  · have hb : ((m : Int) / 32768 == 1) = false := by rw [beq_eq_false_iff_ne]; omega
    go_enter Tryd.func104, Tryd.ntmps104
    go_wp2
    go_ret
    refine ⟨?_, rfl⟩
    rw [Hs.out, if_pos hh]; rfl
  · have hb : ((m : Int) / 32768 == 1) = true := by rw [beq_iff_eq]; omega
    have hor : bits .or .u64 (m : Int) (IntKind.u64.wrap 1208925819614629174640640) = (m : Int) + 18446744073709486080 := by
      have h := u64_high m 16 (by omega) Hl.out 281474976710655 (by omega)
      rw [show (IntKind.u64.wrap 1208925819614629174640640) = (((2 ^ 16 * 281474976710655 : Nat)) : Int) from by decide, h]
      omega
    have Hor := Lib.hid hor
    clear hor
    go_enter Tryd.func104, Tryd.ntmps104
    go_wp2
    go_ret
    refine ⟨?_, rfl⟩
    rw [Hs.out, if_neg (by omega), ← Hor.out]; rfl

set_option maxHeartbeats 400000 in
set_option maxRecDepth 100000 in
theorem refSigned4_calls (n : Int) (h0 : 0 ≤ n) (h1 : n < 18446744073709551616) (w : World) :
    Calls Tryd.prog 104 #[.int .u64 n, .int .i64 4] w fun e w' => e = .returned (.int .u64 (signedOf n 4)) ∧ w = w' := by
  have hand := u64_low n 32 (by omega) 4294967295 (by decide) h0 h1
  obtain ⟨m, hm⟩ : ∃ m : Nat, (m : Int) = n % 4294967296 := ⟨(n % 4294967296).toNat, by omega⟩
  have hml : m < 4294967296 := by omega
  have hs : signedOf n 4 = if (m : Int) < 2147483648 then (m : Int) else (m : Int) + 18446744069414584320 := by unfold signedOf; rw [hm]; rfl
  have hand' : bits .and .u64 n 4294967295 = (m : Int) := by rw [hand, hm]; rfl
  have Hs := Lib.hid hs
  have Hl := Lib.hid hml
  have hmI : (m : Int) < 4294967296 := by omega
  clear hs hm hand h0 h1 hml
  by_cases hh : (m : Int) < 2147483648
  · have hb : ((m : Int) / 2147483648 == 1) = false := by rw [beq_eq_false_iff_ne]; omega
    go_enter Tryd.func104, Tryd.ntmps104
    go_wp2
    go_ret
    refine ⟨?_, rfl⟩
    rw [Hs.out, if_pos hh]; rfl
  · have hb : ((m : Int) / 2147483648 == 1) = true := by rw [beq_iff_eq]; omega
    have hor : bits .or .u64 (m : Int) (IntKind.u64.wrap 79228162514264337589248983040) = (m : Int) + 18446744069414584320 := by
      have h := u64_high m 32 (by omega) Hl.out 4294967295 (by omega)
      rw [show (IntKind.u64.wrap 79228162514264337589248983040) = (((2 ^ 32 * 4294967295 : Nat)) : Int) from by decide, h]
      omega
    have Hor := Lib.hid hor
    clear hor
    go_enter Tryd.func104, Tryd.ntmps104
    go_wp2
    go_ret
    refine ⟨?_, rfl⟩
    rw [Hs.out, if_neg (by omega), ← Hor.out]; rfl

set_option maxHeartbeats 400000 in
set_option maxRecDepth 100000 in
theorem refSigned8_calls (n : Int) (w : World) :
    Calls Tryd.prog 104 #[.int .u64 n, .int .i64 8] w fun e w' => e = .returned (.int .u64 (signedOf n 8)) ∧ w = w' := by
  go_enter Tryd.func104, Tryd.ntmps104
  go_wp2
  go_ret
  exact ⟨by simp [signedOf], rfl⟩

/-- a type's number out of any bits; names: how many names its enum has -/
def numberOf (names kind n : Int) : Int :=
  if kind = 1 then n % 2 else if kind = 10 then n % names
  else if kind = 2 then signedOf (n % 256) 1 else if kind = 3 then signedOf (n % 65536) 2 else if kind = 4 then signedOf (n % 4294967296) 4 else if kind = 5 then signedOf n 8
  else if kind = 6 then n % 256 else if kind = 7 then n % 65536 else if kind = 8 then n % 4294967296 else n

end Go.Proofs.YtgoaiokpnifhfaaDoor

/-
  The document's maker of schemas: numbers of types.
-/
namespace Go.Proofs.YtgoaiokpnifhfaaDoor
open Go.RowKit
set_option linter.unusedVariables false
set_option linter.unusedSimpArgs false

set_option maxHeartbeats 1000000 in
set_option maxRecDepth 100000 in
theorem number1_calls (vs : Value) (A : Option Addr) (ne ce : Nat) (names root ref lists n : Int) (h0 : 0 ≤ n) (h1 : n < 18446744073709551616) (w : World) :
    Calls Tryd.prog 48 #[.agg #[vs, .slice A ne ce, .int .i64 root], .agg #[.int .u8 1, .int .i64 ref, .int .i64 lists], .int .u64 n] w fun e w' => e = .returned (.int .u64 (numberOf names 1 n)) ∧ Below w.heap.size w w' := by
  have hS : kindSize 1 = 1 := by decide
  have hcS := fun W => refSize_calls 1 W
  rw [hS] at hcS
  clear hS
  go_enter Tryd.func48, Tryd.ntmps48
  go_wp2_with (first | (go_at_call 102; refine (hcS _).mono ?_; rintro e w' ⟨rfl, rfl⟩))
  go_ret
  exact ⟨by simp [numberOf], by (repeat' (first | (with_reducible exact Below.refl _ _) | (with_reducible assumption) | (with_reducible refine Below.alloc ?_ ?_ _) | (with_reducible refine Below.drew ?_) | (with_reducible refine Below.setCell ?_ ?_ _) | (with_reducible refine Below.trans ?_ (Below.mono (by assumption) ?_)) | go_size))⟩

set_option maxHeartbeats 1000000 in
set_option maxRecDepth 100000 in
theorem number2_calls (vs : Value) (A : Option Addr) (ne ce : Nat) (names root ref lists n : Int) (h0 : 0 ≤ n) (h1 : n < 18446744073709551616) (w : World) :
    Calls Tryd.prog 48 #[.agg #[vs, .slice A ne ce, .int .i64 root], .agg #[.int .u8 2, .int .i64 ref, .int .i64 lists], .int .u64 n] w fun e w' => e = .returned (.int .u64 (numberOf names 2 n)) ∧ Below w.heap.size w w' := by
  have hS : kindSize 2 = 1 := by decide
  have hcS := fun W => refSize_calls 2 W
  rw [hS] at hcS
  clear hS
  have hcG := fun W => refSign_calls 2 W
  rw [show (decide ((2 : Int) ≤ 2) && decide ((2 : Int) ≤ 5)) = true from by decide] at hcG
  have hcD := fun W => refSigned1_calls (n % 256) (by omega) (by omega) W
  go_enter Tryd.func48, Tryd.ntmps48
  go_wp2_with (first | (go_at_call 102; refine (hcS _).mono ?_; rintro e w' ⟨rfl, rfl⟩) | (go_at_call 103; refine (hcG _).mono ?_; rintro e w' ⟨rfl, rfl⟩) | (go_at_call 104; refine (hcD _).mono ?_; rintro e w' ⟨rfl, rfl⟩))
  go_ret
  exact ⟨by simp [numberOf], by (repeat' (first | (with_reducible exact Below.refl _ _) | (with_reducible assumption) | (with_reducible refine Below.alloc ?_ ?_ _) | (with_reducible refine Below.drew ?_) | (with_reducible refine Below.setCell ?_ ?_ _) | (with_reducible refine Below.trans ?_ (Below.mono (by assumption) ?_)) | go_size))⟩

set_option maxHeartbeats 1000000 in
set_option maxRecDepth 100000 in
theorem number3_calls (vs : Value) (A : Option Addr) (ne ce : Nat) (names root ref lists n : Int) (h0 : 0 ≤ n) (h1 : n < 18446744073709551616) (w : World) :
    Calls Tryd.prog 48 #[.agg #[vs, .slice A ne ce, .int .i64 root], .agg #[.int .u8 3, .int .i64 ref, .int .i64 lists], .int .u64 n] w fun e w' => e = .returned (.int .u64 (numberOf names 3 n)) ∧ Below w.heap.size w w' := by
  have hS : kindSize 3 = 2 := by decide
  have hcS := fun W => refSize_calls 3 W
  rw [hS] at hcS
  clear hS
  have hcG := fun W => refSign_calls 3 W
  rw [show (decide ((2 : Int) ≤ 3) && decide ((3 : Int) ≤ 5)) = true from by decide] at hcG
  have hcD := fun W => refSigned2_calls (n % 65536) (by omega) (by omega) W
  go_enter Tryd.func48, Tryd.ntmps48
  go_wp2_with (first | (go_at_call 102; refine (hcS _).mono ?_; rintro e w' ⟨rfl, rfl⟩) | (go_at_call 103; refine (hcG _).mono ?_; rintro e w' ⟨rfl, rfl⟩) | (go_at_call 104; refine (hcD _).mono ?_; rintro e w' ⟨rfl, rfl⟩))
  go_ret
  exact ⟨by simp [numberOf], by (repeat' (first | (with_reducible exact Below.refl _ _) | (with_reducible assumption) | (with_reducible refine Below.alloc ?_ ?_ _) | (with_reducible refine Below.drew ?_) | (with_reducible refine Below.setCell ?_ ?_ _) | (with_reducible refine Below.trans ?_ (Below.mono (by assumption) ?_)) | go_size))⟩

set_option maxHeartbeats 1000000 in
set_option maxRecDepth 100000 in
theorem number4_calls (vs : Value) (A : Option Addr) (ne ce : Nat) (names root ref lists n : Int) (h0 : 0 ≤ n) (h1 : n < 18446744073709551616) (w : World) :
    Calls Tryd.prog 48 #[.agg #[vs, .slice A ne ce, .int .i64 root], .agg #[.int .u8 4, .int .i64 ref, .int .i64 lists], .int .u64 n] w fun e w' => e = .returned (.int .u64 (numberOf names 4 n)) ∧ Below w.heap.size w w' := by
  have hS : kindSize 4 = 4 := by decide
  have hcS := fun W => refSize_calls 4 W
  rw [hS] at hcS
  clear hS
  have hcG := fun W => refSign_calls 4 W
  rw [show (decide ((2 : Int) ≤ 4) && decide ((4 : Int) ≤ 5)) = true from by decide] at hcG
  have hcD := fun W => refSigned4_calls (n % 4294967296) (by omega) (by omega) W
  go_enter Tryd.func48, Tryd.ntmps48
  go_wp2_with (first | (go_at_call 102; refine (hcS _).mono ?_; rintro e w' ⟨rfl, rfl⟩) | (go_at_call 103; refine (hcG _).mono ?_; rintro e w' ⟨rfl, rfl⟩) | (go_at_call 104; refine (hcD _).mono ?_; rintro e w' ⟨rfl, rfl⟩))
  go_ret
  exact ⟨by simp [numberOf], by (repeat' (first | (with_reducible exact Below.refl _ _) | (with_reducible assumption) | (with_reducible refine Below.alloc ?_ ?_ _) | (with_reducible refine Below.drew ?_) | (with_reducible refine Below.setCell ?_ ?_ _) | (with_reducible refine Below.trans ?_ (Below.mono (by assumption) ?_)) | go_size))⟩

set_option maxHeartbeats 1000000 in
set_option maxRecDepth 100000 in
theorem number5_calls (vs : Value) (A : Option Addr) (ne ce : Nat) (names root ref lists n : Int) (h0 : 0 ≤ n) (h1 : n < 18446744073709551616) (w : World) :
    Calls Tryd.prog 48 #[.agg #[vs, .slice A ne ce, .int .i64 root], .agg #[.int .u8 5, .int .i64 ref, .int .i64 lists], .int .u64 n] w fun e w' => e = .returned (.int .u64 (numberOf names 5 n)) ∧ Below w.heap.size w w' := by
  have hS : kindSize 5 = 8 := by decide
  have hcS := fun W => refSize_calls 5 W
  rw [hS] at hcS
  clear hS
  have hcG := fun W => refSign_calls 5 W
  rw [show (decide ((2 : Int) ≤ 5) && decide ((5 : Int) ≤ 5)) = true from by decide] at hcG
  have hcD := fun W => refSigned8_calls n W
  go_enter Tryd.func48, Tryd.ntmps48
  go_wp2_with (first | (go_at_call 102; refine (hcS _).mono ?_; rintro e w' ⟨rfl, rfl⟩) | (go_at_call 103; refine (hcG _).mono ?_; rintro e w' ⟨rfl, rfl⟩) | (go_at_call 104; refine (hcD _).mono ?_; rintro e w' ⟨rfl, rfl⟩))
  go_ret
  exact ⟨by simp [numberOf], by (repeat' (first | (with_reducible exact Below.refl _ _) | (with_reducible assumption) | (with_reducible refine Below.alloc ?_ ?_ _) | (with_reducible refine Below.drew ?_) | (with_reducible refine Below.setCell ?_ ?_ _) | (with_reducible refine Below.trans ?_ (Below.mono (by assumption) ?_)) | go_size))⟩

set_option maxHeartbeats 1000000 in
set_option maxRecDepth 100000 in
theorem number6_calls (vs : Value) (A : Option Addr) (ne ce : Nat) (names root ref lists n : Int) (h0 : 0 ≤ n) (h1 : n < 18446744073709551616) (w : World) :
    Calls Tryd.prog 48 #[.agg #[vs, .slice A ne ce, .int .i64 root], .agg #[.int .u8 6, .int .i64 ref, .int .i64 lists], .int .u64 n] w fun e w' => e = .returned (.int .u64 (numberOf names 6 n)) ∧ Below w.heap.size w w' := by
  have hS : kindSize 6 = 1 := by decide
  have hcS := fun W => refSize_calls 6 W
  rw [hS] at hcS
  clear hS
  have hcG := fun W => refSign_calls 6 W
  rw [show (decide ((2 : Int) ≤ 6) && decide ((6 : Int) ≤ 5)) = false from by decide] at hcG
  go_enter Tryd.func48, Tryd.ntmps48
  go_wp2_with (first | (go_at_call 102; refine (hcS _).mono ?_; rintro e w' ⟨rfl, rfl⟩) | (go_at_call 103; refine (hcG _).mono ?_; rintro e w' ⟨rfl, rfl⟩))
  go_ret
  exact ⟨by simp [numberOf], by (repeat' (first | (with_reducible exact Below.refl _ _) | (with_reducible assumption) | (with_reducible refine Below.alloc ?_ ?_ _) | (with_reducible refine Below.drew ?_) | (with_reducible refine Below.setCell ?_ ?_ _) | (with_reducible refine Below.trans ?_ (Below.mono (by assumption) ?_)) | go_size))⟩

set_option maxHeartbeats 1000000 in
set_option maxRecDepth 100000 in
theorem number7_calls (vs : Value) (A : Option Addr) (ne ce : Nat) (names root ref lists n : Int) (h0 : 0 ≤ n) (h1 : n < 18446744073709551616) (w : World) :
    Calls Tryd.prog 48 #[.agg #[vs, .slice A ne ce, .int .i64 root], .agg #[.int .u8 7, .int .i64 ref, .int .i64 lists], .int .u64 n] w fun e w' => e = .returned (.int .u64 (numberOf names 7 n)) ∧ Below w.heap.size w w' := by
  have hS : kindSize 7 = 2 := by decide
  have hcS := fun W => refSize_calls 7 W
  rw [hS] at hcS
  clear hS
  have hcG := fun W => refSign_calls 7 W
  rw [show (decide ((2 : Int) ≤ 7) && decide ((7 : Int) ≤ 5)) = false from by decide] at hcG
  go_enter Tryd.func48, Tryd.ntmps48
  go_wp2_with (first | (go_at_call 102; refine (hcS _).mono ?_; rintro e w' ⟨rfl, rfl⟩) | (go_at_call 103; refine (hcG _).mono ?_; rintro e w' ⟨rfl, rfl⟩))
  go_ret
  exact ⟨by simp [numberOf], by (repeat' (first | (with_reducible exact Below.refl _ _) | (with_reducible assumption) | (with_reducible refine Below.alloc ?_ ?_ _) | (with_reducible refine Below.drew ?_) | (with_reducible refine Below.setCell ?_ ?_ _) | (with_reducible refine Below.trans ?_ (Below.mono (by assumption) ?_)) | go_size))⟩

set_option maxHeartbeats 1000000 in
set_option maxRecDepth 100000 in
theorem number8_calls (vs : Value) (A : Option Addr) (ne ce : Nat) (names root ref lists n : Int) (h0 : 0 ≤ n) (h1 : n < 18446744073709551616) (w : World) :
    Calls Tryd.prog 48 #[.agg #[vs, .slice A ne ce, .int .i64 root], .agg #[.int .u8 8, .int .i64 ref, .int .i64 lists], .int .u64 n] w fun e w' => e = .returned (.int .u64 (numberOf names 8 n)) ∧ Below w.heap.size w w' := by
  have hS : kindSize 8 = 4 := by decide
  have hcS := fun W => refSize_calls 8 W
  rw [hS] at hcS
  clear hS
  have hcG := fun W => refSign_calls 8 W
  rw [show (decide ((2 : Int) ≤ 8) && decide ((8 : Int) ≤ 5)) = false from by decide] at hcG
  go_enter Tryd.func48, Tryd.ntmps48
  go_wp2_with (first | (go_at_call 102; refine (hcS _).mono ?_; rintro e w' ⟨rfl, rfl⟩) | (go_at_call 103; refine (hcG _).mono ?_; rintro e w' ⟨rfl, rfl⟩))
  go_ret
  exact ⟨by simp [numberOf], by (repeat' (first | (with_reducible exact Below.refl _ _) | (with_reducible assumption) | (with_reducible refine Below.alloc ?_ ?_ _) | (with_reducible refine Below.drew ?_) | (with_reducible refine Below.setCell ?_ ?_ _) | (with_reducible refine Below.trans ?_ (Below.mono (by assumption) ?_)) | go_size))⟩

set_option maxHeartbeats 1000000 in
set_option maxRecDepth 100000 in
theorem number9_calls (vs : Value) (A : Option Addr) (ne ce : Nat) (names root ref lists n : Int) (h0 : 0 ≤ n) (h1 : n < 18446744073709551616) (w : World) :
    Calls Tryd.prog 48 #[.agg #[vs, .slice A ne ce, .int .i64 root], .agg #[.int .u8 9, .int .i64 ref, .int .i64 lists], .int .u64 n] w fun e w' => e = .returned (.int .u64 (numberOf names 9 n)) ∧ Below w.heap.size w w' := by
  have hS : kindSize 9 = 8 := by decide
  have hcS := fun W => refSize_calls 9 W
  rw [hS] at hcS
  clear hS
  have hcG := fun W => refSign_calls 9 W
  rw [show (decide ((2 : Int) ≤ 9) && decide ((9 : Int) ≤ 5)) = false from by decide] at hcG
  go_enter Tryd.func48, Tryd.ntmps48
  go_wp2_with (first | (go_at_call 102; refine (hcS _).mono ?_; rintro e w' ⟨rfl, rfl⟩) | (go_at_call 103; refine (hcG _).mono ?_; rintro e w' ⟨rfl, rfl⟩))
  go_ret
  exact ⟨by simp [numberOf], by (repeat' (first | (with_reducible exact Below.refl _ _) | (with_reducible assumption) | (with_reducible refine Below.alloc ?_ ?_ _) | (with_reducible refine Below.drew ?_) | (with_reducible refine Below.setCell ?_ ?_ _) | (with_reducible refine Below.trans ?_ (Below.mono (by assumption) ?_)) | go_size))⟩

set_option maxHeartbeats 1000000 in
set_option maxRecDepth 100000 in
theorem number10_calls (vs : Value) (b o ne ce : Nat) (names : Nat) (vn : Option Addr) (cn : Nat) (root : Int) (r : Nat) (lists n : Int) (h0 : 0 ≤ n) (h1 : n < 18446744073709551616) (hr : r < ne) (hn0 : 0 < names) (hn1 : names < 1000) (w : World) (hb : b < w.heap.size)
    (hc : w.cell? ⟨b, o + r * 2 + 1, none⟩ = some (.slice vn names cn)) :
    Calls Tryd.prog 48 #[.agg #[vs, .slice (some ⟨b, o, none⟩) ne ce, .int .i64 root], .agg #[.int .u8 10, .int .i64 (r : Int), .int .i64 lists], .int .u64 n] w fun e w' => e = .returned (.int .u64 (numberOf (names : Int) 10 n)) ∧ Below w.heap.size w w' := by
  have hS : kindSize 10 = 1 := by decide
  have hcS := fun W => refSize_calls 10 W
  rw [hS] at hcS
  clear hS
  have hrI : (r : Int) < (ne : Int) := by omega
  have hnI : (0 : Int) < (names : Int) := by omega
  have hnI' : (names : Int) < 1000 := by omega
  have hnz : ((names : Int) == 0) = false := by rw [beq_eq_false_iff_ne]; omega
  go_enter Tryd.func48, Tryd.ntmps48
  go_wp2_with (first | (go_at_call 102; refine (hcS _).mono ?_; rintro e w' ⟨rfl, rfl⟩))
  go_ret
  exact ⟨by simp [numberOf], by (repeat' (first | (with_reducible exact Below.refl _ _) | (with_reducible assumption) | (with_reducible refine Below.alloc ?_ ?_ _) | (with_reducible refine Below.drew ?_) | (with_reducible refine Below.setCell ?_ ?_ _) | (with_reducible refine Below.trans ?_ (Below.mono (by assumption) ?_)) | go_size))⟩

end Go.Proofs.YtgoaiokpnifhfaaDoor

/-
  A schema in small numbers, and the schema that is made of it.
-/
namespace Go.Proofs.YtgoaiokpnifhfaaDoor
open Go.RowKit
set_option linter.unusedVariables false
set_option linter.unusedSimpArgs false

structure PField where
  kind : Int
  lists : Int
  ref : Int
  name : Int
  df : Int
instance : Inhabited PField := ⟨⟨0, 0, 0, 0, 0⟩⟩
structure PlanD where
  enums : List Int
  structs : List (List PField)
  root : Int
  tree : Bool

def byteOk (n : Int) : Prop := 0 ≤ n ∧ n < 256
def PField.ok (f : PField) : Prop := byteOk f.kind ∧ byteOk f.lists ∧ byteOk f.ref ∧ byteOk f.name ∧ 0 ≤ f.df ∧ f.df < 18446744073709551616

def pfget (l : List PField) (i : Nat) : PField := l[i]!
def psget (l : List (List PField)) (i : Nat) : List PField := l[i]!
theorem pfget_mem (l : List PField) (i : Nat) (h : i < l.length) : pfget l i ∈ l := by unfold pfget; rw [getElem!_pos l i h]; exact List.getElem_mem h
theorem psget_mem (l : List (List PField)) (i : Nat) (h : i < l.length) : psget l i ∈ l := by unfold psget; rw [getElem!_pos l i h]; exact List.getElem_mem h

/-- a struct's fields in small numbers, from the head of a row on -/
def PFieldsAt (w : World) (b o : Nat) (fs : List PField) : Prop := ∀ i, i < fs.length →
  w.cell? ⟨b, o + i * 5, none⟩ = some (.int .u8 (pfget fs i).kind) ∧ w.cell? ⟨b, o + i * 5 + 1, none⟩ = some (.int .u8 (pfget fs i).lists) ∧
  w.cell? ⟨b, o + i * 5 + 2, none⟩ = some (.int .u8 (pfget fs i).ref) ∧ w.cell? ⟨b, o + i * 5 + 3, none⟩ = some (.int .u8 (pfget fs i).name) ∧
  w.cell? ⟨b, o + i * 5 + 4, none⟩ = some (.int .u64 (pfget fs i).df)

def PListAt (w : World) (v : Value) (fs : List PField) : Prop := ∃ A c, v = .slice A fs.length c ∧ (∀ f ∈ fs, f.ok) ∧ (0 < fs.length → ∃ b o, A = some ⟨b, o, none⟩ ∧ b < w.heap.size ∧ PFieldsAt w b o fs)

/-- the plan, as it lies in memory -/
structure PlanAt (w : World) (v : Value) (p : PlanD) : Prop where
  val : ∃ A ce B cs, v = .agg #[.slice A p.enums.length ce, .slice B p.structs.length cs, .int .u8 p.root, .bool p.tree] ∧
    (0 < p.enums.length → ∃ b o, A = some ⟨b, o, none⟩ ∧ b < w.heap.size ∧ ∀ i, i < p.enums.length → w.cell? ⟨b, o + i, none⟩ = some (.int .u8 (iget p.enums i))) ∧
    (0 < p.structs.length → ∃ b o, B = some ⟨b, o, none⟩ ∧ b < w.heap.size ∧ ∀ i, i < p.structs.length → ∃ u, w.cell? ⟨b, o + i, none⟩ = some u ∧ PListAt w u (psget p.structs i))
  root : byteOk p.root
  enums : ∀ n ∈ p.enums, byteOk n

structure FRecord where
  name : ByteArray
  fields : List FField
instance : Inhabited FRecord := ⟨⟨ByteArray.empty, []⟩⟩
structure FChoice where
  name : ByteArray
  names : List ByteArray
instance : Inhabited FChoice := ⟨⟨ByteArray.empty, []⟩⟩
structure FSchema where
  structs : List FRecord
  enums : List FChoice
  root : Int

def rget (l : List FRecord) (i : Nat) : FRecord := l[i]!
def cget (l : List FChoice) (i : Nat) : FChoice := l[i]!
def sget (l : List ByteArray) (i : Nat) : ByteArray := l[i]!

/-- one sign behind a head -/
def nameOf (head : Int) (i : Nat) : ByteArray := bytesStr [head] ++ bytesStr [97 + (i : Int)]
def valName (k : Nat) : ByteArray := bytesStr [118] ++ bytesStr [97 + (k : Int) % 26, 97 + (k : Int) / 26]
def valCount (n : Int) : Nat := (n % 32).toNat + 1
def madeNames (n : Int) : List ByteArray := (List.range (valCount n)).map valName
def madeChoice (enums : List Int) (i : Nat) : FChoice := ⟨nameOf 69 i, madeNames (iget enums i)⟩

/-- a field's kind, in three steps -/
def kind0 (f : PField) : Int := f.kind % 13 + 1
def kind1 (p : PlanD) (f : PField) : Int := if kind0 f = 10 ∧ p.enums.length = 0 then 7 else kind0 f
def kind2 (p : PlanD) (i : Nat) (f : PField) : Int := if kind1 p f = 13 ∧ p.tree = true ∧ i + 1 = p.structs.length then 11 else kind1 p f
def ref2 (p : PlanD) (i : Nat) (f : PField) : Int :=
  if kind2 p i f = 10 then f.ref % (p.enums.length : Int)
  else if kind2 p i f = 13 then (if p.tree = true then (i : Int) + 1 + f.ref % ((p.structs.length : Int) - i - 1) else f.ref % (p.structs.length : Int)) else 0
def madeField (p : PlanD) (i k : Nat) (f : PField) : FField :=
  { name := labelOf f.name k, kind := kind2 p i f, ref := ref2 p i f, lists := f.lists % 4,
    df := if isNumB (kind2 p i f) (f.lists % 4) = true then numberOf (valCount (iget p.enums (ref2 p i f).toNat) : Int) (kind2 p i f) f.df else 0 }
def madeFields (p : PlanD) (i : Nat) (fs : List PField) : List FField := (List.range fs.length).map fun k => madeField p i k (pfget fs k)
def madeRecord (p : PlanD) (i : Nat) : FRecord := ⟨nameOf 83 i, madeFields p i (psget p.structs i)⟩
def madeP (p : PlanD) : FSchema :=
  { structs := (List.range p.structs.length).map (madeRecord p), enums := (List.range p.enums.length).map (madeChoice p.enums), root := p.root % (p.structs.length : Int) }
/-- the plan makes a schema -/
def planOk (p : PlanD) : Prop := 1 ≤ p.structs.length ∧ p.structs.length ≤ 16 ∧ p.enums.length ≤ 8 ∧ ∀ l ∈ p.structs, 1 ≤ l.length ∧ l.length ≤ 16

/-! ### a schema in memory -/
def StrsRow (w : World) (b : Nat) (names : List ByteArray) : Prop := ∀ j, j < names.length → w.cell? ⟨b, j, none⟩ = some (.string (sget names j))
def FieldsRow (w : World) (b : Nat) (fs : List FField) : Prop := FieldsAt w b 0 fs

/-- what hangs on one block alone -/
def LocalTo (K : World → Nat → Prop) : Prop := ∀ w w' b, w'.heap[b]? = w.heap[b]? → K w b → K w' b
theorem strs_local (names : List ByteArray) : LocalTo (fun w b => StrsRow w b names) := fun w w' b e h j hj => by
  rw [World.cell?_of_block (w := w) (a := ⟨b, j, none⟩) e]; exact h j hj
theorem fields_local (fs : List FField) : LocalTo (fun w b => FieldsRow w b fs) := fun w w' b e h => FieldsAt.kept h e

/-- a row that is finished, in a block of its own -/
def Held (K : World → Nat → Prop) (w : World) (O : Nat) (row : Option Nat) (n : Nat) (v : Value) : Prop :=
  ∃ b c, v = .slice (some ⟨b, 0, none⟩) n c ∧ b < w.heap.size ∧ O < b ∧ some b ≠ row ∧ K w b

theorem Held.below {K : World → Nat → Prop} (hK : LocalTo K) {w w' : World} {O : Nat} {row : Option Nat} {n : Nat} {v : Value} (h : Held K w O row n v) (hb : Below w.heap.size w w') : Held K w' O row n v := by
  obtain ⟨b, c, hv, hl, hO, hr, hk⟩ := h
  exact ⟨b, c, hv, Nat.lt_of_lt_of_le hl hb.size, hO, hr, hK w w' b (hb.block b hl) hk⟩

end Go.Proofs.YtgoaiokpnifhfaaDoor
