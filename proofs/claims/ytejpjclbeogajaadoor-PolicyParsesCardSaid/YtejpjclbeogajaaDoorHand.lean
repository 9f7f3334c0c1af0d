/-
  How schemas are made out of small numbers: labels, numbers.
-/
import Derived.Test.YtejpjclbeogajaaDoorSameInts
import Derived.Deep.RegionHeld3
import Derived.Deep.AppendLies
import Derived.StillTailTactics
import Derived.Laws.BytesString
import Derived.IntWalk
import Derived.Laws.Cover4
namespace Go.Proofs.YtejpjclbeogajaaDoor
open Go.RowKit
set_option linter.unusedVariables false
set_option linter.unusedSimpArgs false

def labelHead : Nat → ByteArray
  | 0 => ⟨#[97]⟩ | 1 => ⟨#[120, 95]⟩ | 2 => ⟨#[90, 101, 100]⟩ | 3 => ⟨#[195, 169]⟩ | 4 => ⟨#[239, 172, 128]⟩ | 5 => ⟨#[240, 159, 152, 128]⟩
  | 6 => ⟨#[108, 105, 115, 116]⟩ | 7 => ⟨#[98, 32, 99]⟩ | 8 => ⟨#[115, 116, 114, 117, 99, 116]⟩ | _ => ⟨#[47]⟩

/-- bytes as a text -/
def bytesStr (ns : List Int) : ByteArray := ns.foldl (fun r n => r.push (UInt8.ofNat n.toNat)) ByteArray.empty

theorem conv_bytes (w : World) (b o c : Nat) (ns : List Int) (h : ∀ j, j < ns.length → w.cell? ⟨b, o + j, none⟩ = some (.int .u8 (ns.getD j 0))) :
    (convert 22 9 (.slice (some ⟨b, o, none⟩) ns.length c)).run Tryd.prog w = .ok (.string (bytesStr ns)) w := by
  rw [run_convert_bytes_string w 22 9 5 _ _ _ Tryd.underlying22 Tryd.underlying5 Tryd.underlying9]
  apply run_bytesToString
  rw [run_loadCells w ⟨b, o, none⟩ ns.length (fun j => .int .u8 (ns.getD j 0)) (fun j hj => by rw [Addr.add_lit]; exact h j hj), range_map_take _ ns ns.length (Nat.le_refl _), List.take_length]

theorem conv_byte1 (w : World) (x : Int) (T : TypeId) (W : World) (hW : W.heap[w.heap.size]? = some (.cells #[.int .u8 x] T (0, 0))) :
    (convert 22 9 (.slice (some ⟨w.heap.size, 0, none⟩) 1 1)).run Tryd.prog W = .ok (.string (bytesStr [x])) W := by
  have h := conv_bytes W w.heap.size 0 1 [x] (fun j hj => by
    obtain rfl : j = 0 := by simpa using hj
    rw [blk_cell hW]; rfl)
  simpa using h

/-- a field's name, out of a small number and its place -/
def labelOf (n : Int) (i : Nat) : ByteArray := labelHead (n % 10).toNat ++ bytesStr [97 + ((i % 26 : Nat) : Int)]

theorem heads_cell {w : World} {g : Nat} {T : TypeId} (h : w.heap[g]? = some (.cells #[.string ⟨#[97]⟩, .string ⟨#[120, 95]⟩, .string ⟨#[90, 101, 100]⟩, .string ⟨#[195, 169]⟩, .string ⟨#[239, 172, 128]⟩, .string ⟨#[240, 159, 152, 128]⟩, .string ⟨#[108, 105, 115, 116]⟩, .string ⟨#[98, 32, 99]⟩, .string ⟨#[115, 116, 114, 117, 99, 116]⟩, .string ⟨#[47]⟩] T (0, 0))) (k : Nat) (hk : k < 10) : w.cell? ⟨g, k, none⟩ = some (.string (labelHead k)) := by
  rw [blk_cell h]
  have h0 : k = 0 ∨ k = 1 ∨ k = 2 ∨ k = 3 ∨ k = 4 ∨ k = 5 ∨ k = 6 ∨ k = 7 ∨ k = 8 ∨ k = 9 := by omega
  rcases h0 with rfl | rfl | rfl | rfl | rfl | rfl | rfl | rfl | rfl | rfl <;> rfl

set_option maxHeartbeats 1000000 in
set_option maxRecDepth 100000 in
theorem label_calls (n : Int) (i : Nat) (h0 : 0 ≤ n) (h1 : n < 256) (hi : i < 100) (w : World) :
    Calls Tryd.prog 29 #[.int .u8 n, .int .i64 (i : Int)] w fun e w' => e = .returned (.string (labelOf n i)) ∧ Below w.heap.size w w' := by
  go_enter Tryd.func29, Tryd.ntmps29
  go_wp2_with fail
  have hcell := heads_cell (blk_new w (.cells #[.string ⟨#[97]⟩, .string ⟨#[120, 95]⟩, .string ⟨#[90, 101, 100]⟩, .string ⟨#[195, 169]⟩, .string ⟨#[239, 172, 128]⟩, .string ⟨#[240, 159, 152, 128]⟩, .string ⟨#[108, 105, 115, 116]⟩, .string ⟨#[98, 32, 99]⟩, .string ⟨#[115, 116, 114, 117, 99, 116]⟩, .string ⟨#[47]⟩] 9)) (n % 10).toNat (by omega)
  have hlt : w.heap.size < (w.alloc (.cells #[.string ⟨#[97]⟩, .string ⟨#[120, 95]⟩, .string ⟨#[90, 101, 100]⟩, .string ⟨#[195, 169]⟩, .string ⟨#[239, 172, 128]⟩, .string ⟨#[240, 159, 152, 128]⟩, .string ⟨#[108, 105, 115, 116]⟩, .string ⟨#[98, 32, 99]⟩, .string ⟨#[115, 116, 114, 117, 99, 116]⟩, .string ⟨#[47]⟩] 9)).heap.size := by simp
  have hbel := below1 w (.cells #[.string ⟨#[97]⟩, .string ⟨#[120, 95]⟩, .string ⟨#[90, 101, 100]⟩, .string ⟨#[195, 169]⟩, .string ⟨#[239, 172, 128]⟩, .string ⟨#[240, 159, 152, 128]⟩, .string ⟨#[108, 105, 115, 116]⟩, .string ⟨#[98, 32, 99]⟩, .string ⟨#[115, 116, 114, 117, 99, 116]⟩, .string ⟨#[47]⟩] 9)
  generalize w.alloc (.cells #[.string ⟨#[97]⟩, .string ⟨#[120, 95]⟩, .string ⟨#[90, 101, 100]⟩, .string ⟨#[195, 169]⟩, .string ⟨#[239, 172, 128]⟩, .string ⟨#[240, 159, 152, 128]⟩, .string ⟨#[108, 105, 115, 116]⟩, .string ⟨#[98, 32, 99]⟩, .string ⟨#[115, 116, 114, 117, 99, 116]⟩, .string ⟨#[47]⟩] 9) = W0 at *
  have hi0 : (0 : Int) ≤ (i : Int) := by omega
  have hi1 : (i : Int) < 100 := by omega
  obtain ⟨q, hq⟩ : ∃ q : Nat, (q : Int) = n % 10 := ⟨(n % 10).toNat, by omega⟩
  obtain ⟨r, hr⟩ : ∃ r : Nat, (r : Int) = (i : Int) % 26 := ⟨i % 26, by omega⟩
  have hr' : r = i % 26 := by omega
  have hqn : (n % 10).toNat = q := by omega
  rw [hqn] at hcell
  have e1 : Int.tmod n 10 = (q : Int) := by rw [Int.tmod_eq_emod_of_nonneg h0]; exact hq.symm
  have e2 : Int.tmod (i : Int) 26 = (r : Int) := by rw [Int.tmod_eq_emod_of_nonneg hi0]; exact hr.symm
  have e0 : IntKind.i64.wrap n = n := IntWalk.i64_in _ (by omega)
  have hq1 : (q : Int) < 10 := by omega
  have hr1 : (r : Int) < 26 := by omega
  have e3 : IntKind.i64.wrap (97 + (r : Int)) = 97 + (r : Int) := IntWalk.i64_in _ (by omega)
  have e4 : IntKind.u8.wrap (97 + (r : Int)) = 97 + (r : Int) := IntWalk.u8_in _ (by omega)
  have e5 : IntKind.i64.wrap (q : Int) = (q : Int) := IntWalk.i64_in _ (by omega)
  have e6 : IntKind.i64.wrap (r : Int) = (r : Int) := IntWalk.i64_in _ (by omega)
  have Hq := Lib.hid hqn
  have Hr := Lib.hid hr'
  clear hq hr hr' hqn
  obtain ⟨hd, hhd⟩ : ∃ x, x = labelHead q := ⟨_, rfl⟩
  rw [← hhd] at hcell
  have HHD := Lib.hid hhd
  clear hhd
  obtain ⟨bs, hbs⟩ : ∃ x, x = bytesStr [97 + (r : Int)] := ⟨_, rfl⟩
  have hcv := conv_byte1 W0 (97 + (r : Int)) 5 (W0.alloc (Obj.cells #[Value.int IntKind.u8 (97 + (r : Int))] 5)).drew (blk_new W0 _)
  rw [← hbs] at hcv
  have hbz : bs.size ≤ 1 := by rw [hbs]; exact Nat.le_refl _
  have hdz : hd.size ≤ 6 := by rw [HHD.out]; unfold labelHead; split <;> decide
  have HBS := Lib.hid hbs
  clear hbs
  go_region
  go_wp2
  go_ret
  refine ⟨?_, ?_⟩
  · simp only [labelOf, Hq.out, ← Hr.out, ← HHD.out, ← HBS.out]
    rfl
  · exact (hbel.alloc (by omega) _).drew

set_option maxHeartbeats 400000 in
theorem refSign_calls (k : Int) (w : World) :
    Calls Tryd.prog 68 #[.int .i64 k] w fun e w' => e = .returned (.bool (decide (2 ≤ k) && decide (k ≤ 5))) ∧ w = w' := by
  go_enter Tryd.func68, Tryd.ntmps68
  by_cases h : 2 ≤ k
  all_goals go_wp2
  all_goals go_ret
  all_goals exact ⟨by simp_all <;> omega, rfl⟩

/-- with the sign of so many bytes, in 64 bits -/
def signedOf (n size : Int) : Int :=
  if size = 1 then (if n % 256 < 128 then n % 256 else n % 256 + 18446744073709551360)
  else if size = 2 then (if n % 65536 < 32768 then n % 65536 else n % 65536 + 18446744073709486080)
  else if size = 4 then (if n % 4294967296 < 2147483648 then n % 4294967296 else n % 4294967296 + 18446744069414584320)
  else n

theorem u64_low (n : Int) (k : Nat) (hk : k ≤ 63) (M : Int) (hM : (BitVec.ofInt 64 M).toNat = 2 ^ k - 1) (h0 : 0 ≤ n) (h1 : n < 18446744073709551616) : bits .and .u64 n M = n % ((2 ^ k : Nat) : Int) := by
  have e1 : (BitVec.ofInt 64 n).toNat = n.toNat := by
    rw [BitVec.toNat_ofInt]; simp only [Nat.reducePow, Int.cast_ofNat_Int]; omega
  have key : (BitVec.ofInt 64 n &&& BitVec.ofInt 64 M).toNat = n.toNat % 2 ^ k := by
    rw [BitVec.toNat_and, e1, hM, Nat.and_two_pow_sub_one_eq_mod]
  show IntKind.u64.wrap ((BitVec.ofInt 64 n &&& BitVec.ofInt 64 M).toNat : Nat) = _
  have hp : 2 ^ k ≤ 2 ^ 63 := Nat.pow_le_pow_right (by omega) hk
  have hlt : n.toNat % 2 ^ k < 2 ^ k := Nat.mod_lt _ (Nat.two_pow_pos k)
  rw [key, IntKind.wrap_u64]
  have e2 : n % ((2 ^ k : Nat) : Int) = ((n.toNat % 2 ^ k : Nat) : Int) := by
    rw [Int.natCast_emod]; congr 1; omega
  rw [e2]
  generalize n.toNat % 2 ^ k = m at *
  omega

theorem u64_high (m k : Nat) (hk : k ≤ 63) (hm : m < 2 ^ k) (c : Nat) (hc : 2 ^ k * c < 18446744073709551616) : bits .or .u64 (m : Int) ((2 ^ k * c : Nat) : Int) = ((m + 2 ^ k * c : Nat) : Int) := by
  have hp : 2 ^ k ≤ 2 ^ 63 := Nat.pow_le_pow_right (by omega) hk
  rw [bits_or_u64_nat m (2 ^ k * c) (by omega) hc, Nat.or_comm, ← Nat.two_pow_add_eq_or_of_lt hm]
  congr 1; omega

set_option maxHeartbeats 400000 in
set_option maxRecDepth 100000 in
theorem refSigned1_calls (n : Int) (h0 : 0 ≤ n) (h1 : n < 18446744073709551616) (w : World) :
    Calls Tryd.prog 69 #[.int .u64 n, .int .i64 1] w fun e w' => e = .returned (.int .u64 (signedOf n 1)) ∧ w = w' := by
  have hand := u64_low n 8 (by omega) 255 (by decide) h0 h1
  obtain ⟨m, hm⟩ : ∃ m : Nat, (m : Int) = n % 256 := ⟨(n % 256).toNat, by omega⟩
  have hml : m < 256 := by omega
  have hs : signedOf n 1 = if (m : Int) < 128 then (m : Int) else (m : Int) + 18446744073709551360 := by unfold signedOf; rw [hm]; rfl
  have hand' : bits .and .u64 n 255 = (m : Int) := by rw [hand, hm]; rfl
  have Hs := Lib.hid hs
  have Hl := Lib.hid hml
  have hmI : (m : Int) < 256 := by omega
  clear hs hm hand h0 h1 hml
  by_cases hh : (m : Int) < 128
  · have hb : ((m : Int) / 128 == 1) = false := by rw [beq_eq_false_iff_ne]; omega
    go_enter Tryd.func69, Tryd.ntmps69
    go_wp2
    go_ret
    refine ⟨?_, rfl⟩
    rw [Hs.out, if_pos hh]; rfl
  · have hb : ((m : Int) / 128 == 1) = true := by rw [beq_iff_eq]; omega
    have hor : bits .or .u64 (m : Int) (IntKind.u64.wrap 4722366482869645213440) = (m : Int) + 18446744073709551360 := by
      have h := u64_high m 8 (by omega) Hl.out 72057594037927935 (by omega)
      rw [show (IntKind.u64.wrap 4722366482869645213440) = (((2 ^ 8 * 72057594037927935 : Nat)) : Int) from by decide, h]
      omega
    have Hor := Lib.hid hor
    clear hor
    go_enter Tryd.func69, Tryd.ntmps69
    go_wp2
    go_ret
    refine ⟨?_, rfl⟩
    rw [Hs.out, if_neg (by omega), ← Hor.out]; rfl

set_option maxHeartbeats 400000 in
set_option maxRecDepth 100000 in
theorem refSigned2_calls (n : Int) (h0 : 0 ≤ n) (h1 : n < 18446744073709551616) (w : World) :
    Calls Tryd.prog 69 #[.int .u64 n, .int .i64 2] w fun e w' => e = .returned (.int .u64 (signedOf n 2)) ∧ w = w' := by
  have hand := u64_low n 16 (by omega) 65535 (by decide) h0 h1
  obtain ⟨m, hm⟩ : ∃ m : Nat, (m : Int) = n % 65536 := ⟨(n % 65536).toNat, by omega⟩
  have hml : m < 65536 := by omega
  have hs : signedOf n 2 = if (m : Int) < 32768 then (m : Int) else (m : Int) + 18446744073709486080 := by unfold signedOf; rw [hm]; rfl
  have hand' : bits .and .u64 n 65535 = (m : Int) := by rw [hand, hm]; rfl
  have Hs := Lib.hid hs
  have Hl := Lib.hid hml
  have hmI : (m : Int) < 65536 := by omega
  clear hs hm hand h0 h1 hml
  by_cases hh : (m : Int) < 32768
  · have hb : ((m : Int) / 32768 == 1) = false := by rw [beq_eq_false_iff_ne]; omega
    go_enter Tryd.func69, Tryd.ntmps69
    go_wp2
    go_ret
    refine ⟨?_, rfl⟩
    rw [Hs.out, if_pos hh]; rfl
  · have hb : ((m : Int) / 32768 == 1) = true := by rw [beq_iff_eq]; omega
    have hor : bits .or .u64 (m : Int) (IntKind.u64.wrap 1208925819614629174640640) = (m : Int) + 18446744073709486080 := by
      have h := u64_high m 16 (by omega) Hl.out 281474976710655 (by omega)
      rw [show (IntKind.u64.wrap 1208925819614629174640640) = (((2 ^ 16 * 281474976710655 : Nat)) : Int) from by decide, h]
      omega
    have Hor := Lib.hid hor
    clear hor
    go_enter Tryd.func69, Tryd.ntmps69
    go_wp2
    go_ret
    refine ⟨?_, rfl⟩
    rw [Hs.out, if_neg (by omega), ← Hor.out]; rfl

set_option maxHeartbeats 400000 in
set_option maxRecDepth 100000 in
theorem refSigned4_calls (n : Int) (h0 : 0 ≤ n) (h1 : n < 18446744073709551616) (w : World) :
    Calls Tryd.prog 69 #[.int .u64 n, .int .i64 4] w fun e w' => e = .returned (.int .u64 (signedOf n 4)) ∧ w = w' := by
  have hand := u64_low n 32 (by omega) 4294967295 (by decide) h0 h1
  obtain ⟨m, hm⟩ : ∃ m : Nat, (m : Int) = n % 4294967296 := ⟨(n % 4294967296).toNat, by omega⟩
  have hml : m < 4294967296 := by omega
  have hs : signedOf n 4 = if (m : Int) < 2147483648 then (m : Int) else (m : Int) + 18446744069414584320 := by unfold signedOf; rw [hm]; rfl
  have hand' : bits .and .u64 n 4294967295 = (m : Int) := by rw [hand, hm]; rfl
  have Hs := Lib.hid hs
  have Hl := Lib.hid hml
  have hmI : (m : Int) < 4294967296 := by omega
  clear hs hm hand h0 h1 hml
  by_cases hh : (m : Int) < 2147483648
  · have hb : ((m : Int) / 2147483648 == 1) = false := by rw [beq_eq_false_iff_ne]; omega
    go_enter Tryd.func69, Tryd.ntmps69
    go_wp2
    go_ret
    refine ⟨?_, rfl⟩
    rw [Hs.out, if_pos hh]; rfl
  · have hb : ((m : Int) / 2147483648 == 1) = true := by rw [beq_iff_eq]; omega
    have hor : bits .or .u64 (m : Int) (IntKind.u64.wrap 79228162514264337589248983040) = (m : Int) + 18446744069414584320 := by
      have h := u64_high m 32 (by omega) Hl.out 4294967295 (by omega)
      rw [show (IntKind.u64.wrap 79228162514264337589248983040) = (((2 ^ 32 * 4294967295 : Nat)) : Int) from by decide, h]
      omega
    have Hor := Lib.hid hor
    clear hor
    go_enter Tryd.func69, Tryd.ntmps69
    go_wp2
    go_ret
    refine ⟨?_, rfl⟩
    rw [Hs.out, if_neg (by omega), ← Hor.out]; rfl

set_option maxHeartbeats 400000 in
set_option maxRecDepth 100000 in
theorem refSigned8_calls (n : Int) (w : World) :
    Calls Tryd.prog 69 #[.int .u64 n, .int .i64 8] w fun e w' => e = .returned (.int .u64 (signedOf n 8)) ∧ w = w' := by
  go_enter Tryd.func69, Tryd.ntmps69
  go_wp2
  go_ret
  exact ⟨by simp [signedOf], rfl⟩

/-- a type's number out of any bits; names: how many names its enum has -/
def numberOf (names kind n : Int) : Int :=
  if kind = 1 then n % 2 else if kind = 10 then n % names
  else if kind = 2 then signedOf (n % 256) 1 else if kind = 3 then signedOf (n % 65536) 2 else if kind = 4 then signedOf (n % 4294967296) 4 else if kind = 5 then signedOf n 8
  else if kind = 6 then n % 256 else if kind = 7 then n % 65536 else if kind = 8 then n % 4294967296 else n

end Go.Proofs.YtejpjclbeogajaaDoor
