/-
  The document's Decimal: a number's digits.
-/
import Derived.Test.YtgoaiokpnifhfaaDoorPkLexN
import Derived.Test.YtgoaiokpnifhfaaDoorPkRefN0
import Derived.Laws.BytesString
import Derived.IntWalk
namespace Go.Proofs.YtgoaiokpnifhfaaDoor
open Go.RowKit
set_option linter.unusedVariables false
set_option linter.unusedSimpArgs false

def foldStr (ns : List Int) : ByteArray := ns.foldl (fun r n => r.push (UInt8.ofNat n.toNat)) ByteArray.empty
/-- one byte as a text -/
def oneStr (x : Int) : ByteArray := foldStr [x]
theorem conv_fold (w : World) (b o c : Nat) (ns : List Int) (h : ∀ j, j < ns.length → w.cell? ⟨b, o + j, none⟩ = some (.int .u8 (ns.getD j 0))) :
    (convert 34 9 (.slice (some ⟨b, o, none⟩) ns.length c)).run Tryd.prog w = .ok (.string (foldStr ns)) w := by
  rw [run_convert_bytes_string w 34 9 5 _ _ _ Tryd.underlying34 Tryd.underlying5 Tryd.underlying9]
  apply run_bytesToString
  rw [run_loadCells w ⟨b, o, none⟩ ns.length (fun j => .int .u8 (ns.getD j 0)) (fun j hj => by rw [Addr.add_lit]; exact h j hj), range_map_take _ ns ns.length (Nat.le_refl _), List.take_length]
theorem conv_one (w : World) (x : Int) (W : World) (T : TypeId) (hW : W.heap[w.heap.size]? = some (.cells #[.int .u8 x] T (0, 0))) :
    (convert 34 9 (.slice (some ⟨w.heap.size, 0, none⟩) 1 1)).run Tryd.prog W = .ok (.string (oneStr x)) W := by
  have h := conv_fold W w.heap.size 0 1 [x] (fun j hj => by
    obtain rfl : j = 0 := by simpa using hj
    rw [blk_cell hW]; rfl)
  exact h

theorem oneStr_size (x : Int) : (oneStr x).size = 1 := rfl
theorem oneStr_bt (x : Int) (h0 : 0 ≤ x) (h1 : x < 256) : bt (oneStr x) 0 = x := by
  rw [bt_list]
  have : (oneStr x).data.toList = [UInt8.ofNat x.toNat] := rfl
  rw [this]
  have h2 : x.toNat < 256 := by omega
  simp [Nat.mod_eq_of_lt h2]; omega

theorem bt_left (a b : ByteArray) (i : Nat) (h : i < a.size) : bt (a ++ b) i = bt a i := by
  rw [bt_list, bt_list]
  have e : (a ++ b).data.toList = a.data.toList ++ b.data.toList := by rw [ByteArray.data_append, Array.toList_append]
  have h2 : i < a.data.toList.length := by simpa using h
  rw [e, List.getElem?_append_left h2]
theorem bt_right (a b : ByteArray) (i : Nat) (h : a.size ≤ i) : bt (a ++ b) i = bt b (i - a.size) := by
  rw [bt_list, bt_list]
  have e : (a ++ b).data.toList = a.data.toList ++ b.data.toList := by rw [ByteArray.data_append, Array.toList_append]
  have h2 : a.data.toList.length ≤ i := by simpa using h
  have h3 : a.data.toList.length = a.size := Array.length_toList
  rw [e, List.getElem?_append_right h2, h3]

def digS (n : Nat) : ByteArray := oneStr (48 + (n : Int))
def dec : Nat → Nat → ByteArray
  | 0, n => digS n
  | f + 1, n => if n ≤ 9 then digS n else dec f (n / 10) ++ digS (n % 10)

theorem valOf_left (a b : ByteArray) : ∀ k, k ≤ a.size → valOf (a ++ b) k = valOf a k := by
  intro k
  induction k with
  | zero => intro _; rfl
  | succ k ih =>
    intro h
    simp only [valOf]
    rw [ih (by omega), bt_left a b k (by omega)]

structure DecOk (f n : Nat) (d : ByteArray) : Prop where
  all : allDigits d d.size
  val : valOf d d.size = (n : Int)
  pos : 1 ≤ d.size
  len : d.size ≤ f + 1
  lead : n ≠ 0 → bt d 0 ≠ 48
  long : 1 < d.size → n ≠ 0

theorem dig_ok (f n : Nat) (h : n ≤ 9) : DecOk f n (digS n) := by
  have hb : bt (digS n) 0 = 48 + (n : Int) := oneStr_bt _ (by omega) (by omega)
  have hz : (digS n).size = 1 := rfl
  refine ⟨fun j hj => ?_, ?_, by rw [hz]; exact Nat.le_refl _, by rw [hz]; omega, fun hn => by rw [hb]; omega, fun h2 => by rw [hz] at h2; omega⟩
  · obtain rfl : j = 0 := by omega
    rw [hb, isDigit, decide_eq_true (show (48 : Int) ≤ 48 + (n : Int) by omega), decide_eq_true (show 48 + (n : Int) ≤ 57 by omega)]; rfl
  · rw [hz]
    simp only [valOf]
    rw [hb]; omega
theorem dec_ok : ∀ (f n : Nat), n < 10 ^ (f + 1) → DecOk f n (dec f n) := by
  intro f
  induction f with
  | zero => intro n h; exact dig_ok 0 n (by simpa using Nat.le_of_lt_succ h)
  | succ f ih =>
    intro n h
    simp only [dec]
    by_cases h9 : n ≤ 9
    · rw [if_pos h9]; exact dig_ok _ n h9
    · rw [if_neg h9]
      have hq : n / 10 < 10 ^ (f + 1) := by
        rw [Nat.div_lt_iff_lt_mul (by decide)]
        rw [Nat.pow_succ] at h; exact h
      obtain ⟨h1, h2, h3, h4, h5, h6⟩ := ih (n / 10) hq
      obtain ⟨g1, g2, g3, g4, g5, g6⟩ := dig_ok f (n % 10) (by omega)
      have hz : (dec f (n / 10) ++ digS (n % 10)).size = (dec f (n / 10)).size + 1 := by rw [ByteArray.size_append]; rfl
      have hbr : bt (dec f (n / 10) ++ digS (n % 10)) (dec f (n / 10)).size = bt (digS (n % 10)) 0 := by rw [bt_right _ _ _ (Nat.le_refl _), Nat.sub_self]
      have hbd : bt (digS (n % 10)) 0 = 48 + ((n % 10 : Nat) : Int) := oneStr_bt _ (by omega) (by omega)
      refine ⟨fun j hj => ?_, ?_, by omega, by omega, fun hn => ?_, fun _ => by omega⟩
      · by_cases hj2 : j < (dec f (n / 10)).size
        · rw [bt_left _ _ _ hj2]; exact h1 j hj2
        · have : j = (dec f (n / 10)).size := by omega
          rw [this, hbr]; exact g1 0 (by show 0 < 1; decide)
      · rw [hz]
        simp only [valOf]
        rw [valOf_left _ _ _ (Nat.le_refl _), h2, hbr, hbd]
        omega
      · rw [bt_left _ _ _ (by omega)]; exact h5 (by omega)

/-- a number's digits, twenty at the most -/
def decOf (n : Nat) : ByteArray := dec 19 n
theorem decOf_ok (n : Nat) (h : n < 18446744073709551616) : DecOk 19 n (decOf n) := dec_ok 19 n (by have : (10 : Nat) ^ (19 + 1) = 100000000000000000000 := by decide
                                                                                                    omega)

theorem cat_assoc (a b c : ByteArray) : a ++ b ++ c = a ++ (b ++ c) := ByteArray.append_assoc

set_option maxHeartbeats 2000000 in
set_option maxRecDepth 100000 in
theorem decimal_plain (n0 : Nat) (hn0 : n0 < 18446744073709551616) (w : World) :
    Calls Tryd.prog 113 #[.int .u64 n0, .bool false] w fun e w' => e = .returned (.string (decOf n0)) ∧ Below w.heap.size w w' := by
  have HN := Lib.hid hn0
  go_enter Tryd.func113, Tryd.ntmps113
  go_wp2_with fail
  go_loopw [0, 5] (fun v0 v5 wr => ∃ (n f : Nat) (acc : ByteArray), v0 = .int .u64 (n : Int) ∧ v5 = .string acc ∧ (n : Int) ≤ 18446744073709551615 ∧ acc.size ≤ 20 ∧ Hid (decOf n0 = dec f n ++ acc ∧ n < 10 ^ (f + 1) ∧ f ≤ 19) ∧ Below w.heap.size w wr) (fun v0 _ _ => (intOf v0).toNat)
  case atStart =>
    refine ⟨n0, 19, ⟨#[]⟩, rfl, rfl, by have := HN.out; omega, by decide, ⟨?_, ?_, Nat.le_refl _⟩, by (repeat' (first | (with_reducible exact Below.refl _ _) | (with_reducible assumption) | (with_reducible refine Below.alloc ?_ ?_ _) | (with_reducible refine Below.drew ?_) | (with_reducible refine Below.setCell ?_ ?_ _) | (with_reducible refine Below.trans ?_ (Below.mono (by assumption) ?_)) | go_size))⟩
    · rw [show (⟨#[]⟩ : ByteArray) = ByteArray.empty from rfl, ByteArray.append_empty]; rfl
    · have : (10 : Nat) ^ (19 + 1) = 100000000000000000000 := by decide
      have := HN.out
      omega
  case round =>
    obtain ⟨n, f, acc, rfl, rfl, hnb, haz, hdec, hbel⟩ := hrel
    by_cases h9 : 9 < n
    · have h9I : (9 : Int) < (n : Int) := by omega
      obtain ⟨q, hq⟩ : ∃ q, q = n / 10 := ⟨_, rfl⟩
      obtain ⟨r, hr⟩ : ∃ r, r = n % 10 := ⟨_, rfl⟩
      have hqr : n = 10 * q + r := by omega
      have hr9 : (r : Int) ≤ 9 := by omega
      have hqlt : q < n := by omega
      have e1 : Int.tmod (n : Int) 10 = (r : Int) := by rw [Int.tmod_eq_emod_of_nonneg (by omega)]; omega
      have e2 : Int.tdiv (n : Int) 10 = (q : Int) := by rw [Int.tdiv_eq_ediv_of_nonneg (by omega)]; omega
      have hbz := hbel.size
      have hcv := conv_one wr (48 + (r : Int)) (wr.alloc (Obj.cells #[Value.int IntKind.u8 (48 + (r : Int))] 5)) 5 (blk_new wr _)
      obtain ⟨E, hE⟩ : ∃ E, E = oneStr (48 + (r : Int)) := ⟨_, rfl⟩
      rw [← hE] at hcv
      have hEz : E.size = 1 := by rw [hE]; rfl
      have HE := Lib.hid hE
      have HQ := Lib.hid hq
      have HR := Lib.hid hr
      have HQR := Lib.hid hqr
      have er : IntKind.u8.wrap (48 + (r : Int)) = 48 + (r : Int) := IntWalk.u8_in _ (by omega)
      have HB := Lib.hid hbel
      clear hq hr hE hqr hbel
      go_wp2_with fail
      go_roundw
      case rel =>
        have hf : ∃ f', f = f' + 1 := by
          cases f with
          | zero => have h2 := hdec.out.2.1; simp at h2; omega
          | succ f' => exact ⟨f', rfl⟩
        obtain ⟨f', rfl⟩ := hf
        have hd := hdec.out
        have h1 : dec (f' + 1) n = dec f' q ++ E := by
          simp only [dec]; rw [if_neg (by omega), HE.out, ← HQ.out, ← HR.out]; rfl
        have hz : (decOf n0).size ≤ 20 := (decOf_ok n0 HN.out).len
        have h2 : decOf n0 = dec f' q ++ (E ++ acc) := by rw [hd.1, h1, cat_assoc]
        have hz2 : (E ++ acc).size ≤ 20 := by
          have : (decOf n0).size = (dec f' q).size + (E ++ acc).size := by rw [h2, ByteArray.size_append]
          omega
        refine ⟨q, f', E ++ acc, rfl, rfl, by omega, hz2, ⟨h2, ?_, by omega⟩, ?_⟩
        · have h3 := hd.2.1
          have h4 := HQR.out
          rw [Nat.pow_succ] at h3
          omega
        · have := HB.out
          exact this.alloc hbz _
      case measure =>
        have := HQR.out
        simp [intOf]; omega
    · have h9I : (n : Int) ≤ 9 := by omega
      have hbz := hbel.size
      have hcv := conv_one wr (48 + (n : Int)) (wr.alloc (Obj.cells #[Value.int IntKind.u8 (48 + (n : Int))] 5)) 5 (blk_new wr _)
      obtain ⟨E, hE⟩ : ∃ E, E = oneStr (48 + (n : Int)) := ⟨_, rfl⟩
      rw [← hE] at hcv
      have hEz : E.size = 1 := by rw [hE]; rfl
      have HE := Lib.hid hE
      have HB := Lib.hid hbel
      clear hE hbel
      go_wp2_with fail
      go_ret
      refine ⟨?_, HB.out.alloc hbz _⟩
      have hd := hdec.out
      have h1 : dec f n = E := by
        rw [HE.out]
        cases f with
        | zero => rfl
        | succ f' => simp only [dec]; rw [if_pos (by omega)]; rfl
      rw [hd.1, h1]; rfl

set_option maxHeartbeats 2000000 in
set_option maxRecDepth 100000 in
theorem decimal_low (n0 : Nat) (hn0 : n0 < 18446744073709551616) (hlow : n0 < 9223372036854775808) (w : World) :
    Calls Tryd.prog 113 #[.int .u64 n0, .bool true] w fun e w' => e = .returned (.string (decOf n0)) ∧ Below w.heap.size w w' := by
  have HN := Lib.hid hn0
  have hb63 : ((n0 : Int) / 9223372036854775808 == 1) = false := by rw [beq_eq_false_iff_ne]; omega
  clear hn0 hlow
  go_enter Tryd.func113, Tryd.ntmps113
  go_wp2_with fail
  clear hb63
  go_loopw [0, 5] (fun v0 v5 wr => ∃ (n f : Nat) (acc : ByteArray), v0 = .int .u64 (n : Int) ∧ v5 = .string acc ∧ (n : Int) ≤ 18446744073709551615 ∧ acc.size ≤ 20 ∧ Hid (decOf n0 = dec f n ++ acc ∧ n < 10 ^ (f + 1) ∧ f ≤ 19) ∧ Below w.heap.size w wr) (fun v0 _ _ => (intOf v0).toNat)
  case atStart =>
    refine ⟨n0, 19, ⟨#[]⟩, rfl, rfl, by have := HN.out; omega, by decide, ⟨?_, ?_, Nat.le_refl _⟩, by (repeat' (first | (with_reducible exact Below.refl _ _) | (with_reducible assumption) | (with_reducible refine Below.alloc ?_ ?_ _) | (with_reducible refine Below.drew ?_) | (with_reducible refine Below.setCell ?_ ?_ _) | (with_reducible refine Below.trans ?_ (Below.mono (by assumption) ?_)) | go_size))⟩
    · rw [show (⟨#[]⟩ : ByteArray) = ByteArray.empty from rfl, ByteArray.append_empty]; rfl
    · have : (10 : Nat) ^ (19 + 1) = 100000000000000000000 := by decide
      have := HN.out
      omega
  case round =>
    obtain ⟨n, f, acc, rfl, rfl, hnb, haz, hdec, hbel⟩ := hrel
    by_cases h9 : 9 < n
    · have h9I : (9 : Int) < (n : Int) := by omega
      obtain ⟨q, hq⟩ : ∃ q, q = n / 10 := ⟨_, rfl⟩
      obtain ⟨r, hr⟩ : ∃ r, r = n % 10 := ⟨_, rfl⟩
      have hqr : n = 10 * q + r := by omega
      have hr9 : (r : Int) ≤ 9 := by omega
      have hqlt : q < n := by omega
      have e1 : Int.tmod (n : Int) 10 = (r : Int) := by rw [Int.tmod_eq_emod_of_nonneg (by omega)]; omega
      have e2 : Int.tdiv (n : Int) 10 = (q : Int) := by rw [Int.tdiv_eq_ediv_of_nonneg (by omega)]; omega
      have hbz := hbel.size
      have hcv := conv_one wr (48 + (r : Int)) (wr.alloc (Obj.cells #[Value.int IntKind.u8 (48 + (r : Int))] 5)) 5 (blk_new wr _)
      obtain ⟨E, hE⟩ : ∃ E, E = oneStr (48 + (r : Int)) := ⟨_, rfl⟩
      rw [← hE] at hcv
      have hEz : E.size = 1 := by rw [hE]; rfl
      have HE := Lib.hid hE
      have HQ := Lib.hid hq
      have HR := Lib.hid hr
      have HQR := Lib.hid hqr
      have er : IntKind.u8.wrap (48 + (r : Int)) = 48 + (r : Int) := IntWalk.u8_in _ (by omega)
      have HB := Lib.hid hbel
      clear hq hr hE hqr hbel
      go_wp2_with fail
      go_roundw
      case rel =>
        have hf : ∃ f', f = f' + 1 := by
          cases f with
          | zero => have h2 := hdec.out.2.1; simp at h2; omega
          | succ f' => exact ⟨f', rfl⟩
        obtain ⟨f', rfl⟩ := hf
        have hd := hdec.out
        have h1 : dec (f' + 1) n = dec f' q ++ E := by
          simp only [dec]; rw [if_neg (by omega), HE.out, ← HQ.out, ← HR.out]; rfl
        have hz : (decOf n0).size ≤ 20 := (decOf_ok n0 HN.out).len
        have h2 : decOf n0 = dec f' q ++ (E ++ acc) := by rw [hd.1, h1, cat_assoc]
        have hz2 : (E ++ acc).size ≤ 20 := by
          have : (decOf n0).size = (dec f' q).size + (E ++ acc).size := by rw [h2, ByteArray.size_append]
          omega
        refine ⟨q, f', E ++ acc, rfl, rfl, by omega, hz2, ⟨h2, ?_, by omega⟩, ?_⟩
        · have h3 := hd.2.1
          have h4 := HQR.out
          rw [Nat.pow_succ] at h3
          omega
        · have := HB.out
          exact this.alloc hbz _
      case measure =>
        have := HQR.out
        simp [intOf]; omega
    · have h9I : (n : Int) ≤ 9 := by omega
      have hbz := hbel.size
      have hcv := conv_one wr (48 + (n : Int)) (wr.alloc (Obj.cells #[Value.int IntKind.u8 (48 + (n : Int))] 5)) 5 (blk_new wr _)
      obtain ⟨E, hE⟩ : ∃ E, E = oneStr (48 + (n : Int)) := ⟨_, rfl⟩
      rw [← hE] at hcv
      have hEz : E.size = 1 := by rw [hE]; rfl
      have HE := Lib.hid hE
      have HB := Lib.hid hbel
      clear hE hbel
      go_wp2_with fail
      go_ret
      refine ⟨?_, HB.out.alloc hbz _⟩
      have hd := hdec.out
      have h1 : dec f n = E := by
        rw [HE.out]
        cases f with
        | zero => rfl
        | succ f' => simp only [dec]; rw [if_pos (by omega)]; rfl
      rw [hd.1, h1]; rfl


set_option maxHeartbeats 2000000 in
set_option maxRecDepth 100000 in
theorem decimal_high (n0 : Nat) (hn0 : n0 < 18446744073709551616) (hhigh : 9223372036854775808 ≤ n0) (w : World) :
    Calls Tryd.prog 113 #[.int .u64 n0, .bool true] w fun e w' => e = .returned (.string (⟨#[45]⟩ ++ decOf (18446744073709551616 - n0))) ∧ Below w.heap.size w w' := by
  have hb63 : ((n0 : Int) / 9223372036854775808 == 1) = true := by rw [beq_iff_eq]; omega
  have hneg := neg_u64 n0 (by omega) (by omega)
  have hw : IntKind.u64.wrap (-(n0 : Int)) = ((18446744073709551616 - n0 : Nat) : Int) := by
    simp only [IntKind.wrap, IntKind.bits, IntKind.signed]; simp; omega
  rw [hw] at hneg
  have hok := (decOf_ok (18446744073709551616 - n0) (by omega)).len
  have hcal := decimal_plain (18446744073709551616 - n0) (by omega) w
  obtain ⟨m, hm⟩ : ∃ m, m = 18446744073709551616 - n0 := ⟨_, rfl⟩
  rw [← hm] at hneg hcal hok ⊢
  have hsg : IntKind.u64.signed = false := rfl
  have hokI : (decOf m).size ≤ 20 := hok
  clear hm hw hn0 hhigh
  go_enter Tryd.func113, Tryd.ntmps113
  go_wp2_with fail
  refine hcal.mono ?_
  rintro e w2 ⟨rfl, hB⟩
  go_wp2_with fail
  go_ret
  exact ⟨rfl, hB⟩

end Go.Proofs.YtgoaiokpnifhfaaDoor
