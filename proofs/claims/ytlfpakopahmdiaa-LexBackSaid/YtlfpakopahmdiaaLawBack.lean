/-
  LexBack.
-/
import Derived.Test.YtlfpakopahmdiaaAwake03
import Derived.Test.YtlfpakopahmdiaaDec
import Derived.OpenShut
namespace Go.Proofs.Ytlfpakopahmdiaa
open Go.RowKit
set_option linter.unusedVariables false
set_option linter.unusedSimpArgs false

theorem dec_minus (n : Nat) (h : n < 18446744073709551616) : hasMinus (decOf n) = false := by
  have hd := decOf_ok n h
  have := dig_bd _ (hd.all 0 hd.pos)
  rw [hasMinus]; exact decide_eq_false (by omega)
theorem dec_digits (n : Nat) (h : n < 18446744073709551616) : digits (decOf n) = decOf n := by
  rw [digits, digFrom, dec_minus n h]
  apply ByteArray.ext; apply Array.ext'
  show ((decOf n).extract 0 (decOf n).size).data.toList = _
  rw [Lib.extract_to_end]; simp
theorem dec_good (n : Nat) (h : n < 18446744073709551616) : refGoodB (decOf n) = true := by
  have hd := decOf_ok n h
  have hg : goodB (decOf n) = true := by
    rw [goodB_iff, dec_digits n h]
    refine ⟨hd.pos, hd.len, ?_, fun e => ?_⟩
    · by_cases h1 : (decOf n).size = 1
      · exact .inl h1
      · exact .inr (hd.lead (hd.long (by have := hd.pos; omega)))
    · have h2 := dig_bd _ (hd.all 0 hd.pos)
      rw [bt_list, e] at h2
      simp at h2
  rw [refGoodB, hg, dec_digits n h]; exact decide_eq_true hd.all
theorem dec_val (n : Nat) (h : n < 18446744073709551616) : digVal (decOf n) = some (n : Int) := by
  have hd := decOf_ok n h
  rw [digVal, dec_digits n h, hd.val, if_pos ⟨dec_good n h, by unfold U64M; omega⟩]

/-- with a minus ahead -/
def negS (m : Nat) : ByteArray := ⟨#[45]⟩ ++ decOf m
theorem neg_bt0 (m : Nat) : bt (negS m) 0 = 45 := by
  rw [negS, bt_left _ _ _ (by show 0 < 1; decide)]; rfl
theorem neg_minus (m : Nat) : hasMinus (negS m) = true := by rw [hasMinus, neg_bt0]; rfl
theorem neg_digits (m : Nat) : digits (negS m) = decOf m := by
  rw [digits, digFrom, neg_minus]
  apply ByteArray.ext; apply Array.ext'
  show ((negS m).extract 1 (negS m).size).data.toList = _
  rw [Lib.extract_to_end, negS, ByteArray.data_append, Array.toList_append]
  rfl
theorem neg_val (m : Nat) (h : m < 18446744073709551616) (h0 : m ≠ 0) : digVal (negS m) = some (m : Int) := by
  have hd := decOf_ok m h
  have hg : goodB (negS m) = true := by
    rw [goodB_iff, neg_digits]
    refine ⟨hd.pos, hd.len, .inr (hd.lead h0), fun e => ?_⟩
    have h1 : bt (negS m) 1 = bt (decOf m) 0 := by rw [negS, bt_right _ _ _ (by show 1 ≤ 1; decide)]; rfl
    rw [bt_list, e] at h1
    exact hd.lead h0 (by rw [← h1]; rfl)
  have hr : refGoodB (negS m) = true := by rw [refGoodB, hg, neg_digits]; exact decide_eq_true hd.all
  rw [digVal, neg_digits, hd.val, if_pos ⟨hr, by unfold U64M; omega⟩]

theorem num_plain (n : Nat) (h : n < 18446744073709551616) (z : Int) (hz : sizedB z = true) : numOf (decOf n) z false = if (n : Int) < 2 * halfOf z then some (n : Int) else none := by
  rw [numOf, dec_val n h]
  simp only [hz, dec_minus n h, Bool.true_eq_false, Bool.false_eq_true, if_false]
theorem num_low (n : Nat) (h : n < 18446744073709551616) (z : Int) (hz : sizedB z = true) : numOf (decOf n) z true = if (n : Int) < halfOf z then some (n : Int) else none := by
  rw [numOf, dec_val n h]
  simp only [hz, dec_minus n h, Bool.true_eq_false, Bool.false_eq_true, if_false, if_true]
theorem num_high (m : Nat) (h : m < 18446744073709551616) (h0 : m ≠ 0) (z : Int) (hz : sizedB z = true) : numOf (negS m) z true = if (m : Int) ≤ halfOf z then some (18446744073709551616 - (m : Int)) else none := by
  have hw : IntKind.u64.wrap (-(m : Int)) = 18446744073709551616 - (m : Int) := by
    simp only [IntKind.wrap, IntKind.bits, IntKind.signed]; simp; omega
  rw [numOf, neg_val m h h0]
  simp only [hz, neg_minus m, Bool.true_eq_false, if_false, if_true, true_and, hw]

/-- what the law asks of a number's text with a sign -/
structure SignedOk (n : Nat) (S : ByteArray) (i : Int) : Prop where
  size : S.size ≤ 21
  wrap : IntKind.i64.wrap (n : Int) = i
  lo : -9223372036854775808 ≤ i
  hi : i ≤ 9223372036854775807
  s1 : numOf S 1 true = if i / 128 = 0 ∨ i / 128 = -1 then some (n : Int) else none
  s2 : numOf S 2 true = if i / 32768 = 0 ∨ i / 32768 = -1 then some (n : Int) else none
  s4 : numOf S 4 true = if i / 2147483648 = 0 ∨ i / 2147483648 = -1 then some (n : Int) else none
  s8 : numOf S 8 true = some (n : Int)
theorem ite_iff {α : Type} {P Q : Prop} [Decidable P] [Decidable Q] {a b : α} (h : P ↔ Q) : (if P then a else b) = if Q then a else b := by
  by_cases hp : P
  · rw [if_pos hp, if_pos (h.1 hp)]
  · rw [if_neg hp, if_neg (fun hq => hp (h.2 hq))]
theorem signed_low (n : Nat) (h : n < 9223372036854775808) : SignedOk n (decOf n) (n : Int) := by
  have h2 : n < 18446744073709551616 := by omega
  have hz := (decOf_ok n h2).len
  refine ⟨by omega, IntWalk.i64_in _ (by omega), by omega, by omega, ?_, ?_, ?_, ?_⟩
  · rw [num_low n h2 1 rfl]; exact ite_iff (by show (n : Int) < 128 ↔ _; omega)
  · rw [num_low n h2 2 rfl]; exact ite_iff (by show (n : Int) < 32768 ↔ _; omega)
  · rw [num_low n h2 4 rfl]; exact ite_iff (by show (n : Int) < 2147483648 ↔ _; omega)
  · rw [num_low n h2 8 rfl, if_pos (by show (n : Int) < 9223372036854775808; omega)]
theorem signed_high (n : Nat) (h : 9223372036854775808 ≤ n) (h2 : n < 18446744073709551616) : SignedOk n (negS (18446744073709551616 - n)) ((n : Int) - 18446744073709551616) := by
  have hm : 18446744073709551616 - n < 18446744073709551616 := by omega
  have hm0 : 18446744073709551616 - n ≠ 0 := by omega
  have hz := (decOf_ok _ hm).len
  have e : (18446744073709551616 : Int) - ((18446744073709551616 - n : Nat) : Int) = (n : Int) := by omega
  refine ⟨?_, ?_, by omega, by omega, ?_, ?_, ?_, ?_⟩
  · rw [negS, ByteArray.size_append]
    have : (⟨#[45]⟩ : ByteArray).size = 1 := rfl
    omega
  · simp only [IntKind.wrap, IntKind.bits, IntKind.signed]; simp; omega
  · rw [num_high _ hm hm0 1 rfl, e]; exact ite_iff (by show ((18446744073709551616 - n : Nat) : Int) ≤ 128 ↔ _; omega)
  · rw [num_high _ hm hm0 2 rfl, e]; exact ite_iff (by show ((18446744073709551616 - n : Nat) : Int) ≤ 32768 ↔ _; omega)
  · rw [num_high _ hm hm0 4 rfl, e]; exact ite_iff (by show ((18446744073709551616 - n : Nat) : Int) ≤ 2147483648 ↔ _; omega)
  · rw [num_high _ hm hm0 8 rfl, e, if_pos (by show ((18446744073709551616 - n : Nat) : Int) ≤ 9223372036854775808; omega)]

set_option maxHeartbeats 4000000 in
set_option maxRecDepth 100000 in
theorem lexBack_walk (n : Int) (w : World) (hn : (Lit.int .u64 n).wf = true) :
    Calls Try.prog 8 #[.int .u64 n] w fun e w' => e = .returned (.bool true) ∧ Below w.heap.size w w' := by
  obtain ⟨n0, n1⟩ := bounds_u64 hn
  clear hn
  obtain ⟨N, rfl⟩ := Int.eq_ofNat_of_zero_le n0
  have hN : N < 18446744073709551616 := by omega
  have hex : ∃ (S : ByteArray) (i : Int), SignedOk N S i ∧ ∀ W : World, Calls Try.prog 35 #[.int .u64 (N : Int), .bool true] W fun e w' => e = .returned (.string S) ∧ Below W.heap.size W w' := by
    by_cases h : N < 9223372036854775808
    · exact ⟨_, _, signed_low N h, fun W => decimal_low N hN h W⟩
    · exact ⟨_, _, signed_high N (by omega) hN, fun W => decimal_high N hN (by omega) W⟩
  obtain ⟨S, i, hS, hcS⟩ := hex
  have hcP := fun W => decimal_plain N hN W
  have hPz := (decOf_ok N hN).len
  have hp1 : numOf (decOf N) 1 false = if (N : Int) / 256 = 0 then some (N : Int) else none := by rw [num_plain N hN 1 rfl]; exact ite_iff (by show (N : Int) < 256 ↔ _; omega)
  have hp2 : numOf (decOf N) 2 false = if (N : Int) / 65536 = 0 then some (N : Int) else none := by rw [num_plain N hN 2 rfl]; exact ite_iff (by show (N : Int) < 65536 ↔ _; omega)
  have hp4 : numOf (decOf N) 4 false = if (N : Int) / 4294967296 = 0 then some (N : Int) else none := by rw [num_plain N hN 4 rfl]; exact ite_iff (by show (N : Int) < 4294967296 ↔ _; omega)
  have hp8 : numOf (decOf N) 8 false = some (N : Int) := by rw [num_plain N hN 8 rfl, if_pos (by show (N : Int) < 18446744073709551616; omega)]
  obtain ⟨P, hP⟩ : ∃ P, P = decOf N := ⟨_, rfl⟩
  rw [← hP] at hcP hPz hp1 hp2 hp4 hp8
  obtain ⟨n, hnn⟩ : ∃ n, n = (N : Int) := ⟨_, rfl⟩
  have hwi := hS.wrap
  have h1 := hS.s1
  have h2 := hS.s2
  have h4 := hS.s4
  have h8 := hS.s8
  have hSz := hS.size
  have hilo := hS.lo
  have hihi := hS.hi
  rw [← hnn] at hcP hp1 hp2 hp4 hp8 hcS hwi h1 h2 h4 h8 n0 n1 ⊢
  have HP1 := Lib.hid hp1
  have HP2 := Lib.hid hp2
  have HP4 := Lib.hid hp4
  have HP8 := Lib.hid hp8
  have HS1 := Lib.hid h1
  have HS2 := Lib.hid h2
  have HS4 := Lib.hid h4
  have HS8 := Lib.hid h8
  have HCP := Lib.hid hcP
  have HCS := Lib.hid hcS
  clear hP hS hnn hp1 hp2 hp4 hp8 h1 h2 h4 h8 hN hcP hcS
  go_enter Try.func8, Try.ntmps8
  go_wp2_with (first | (go_at_call 34; refine (awake03_calls _).mono ?_; rintro e wB ⟨rfl, hB⟩; have hzB := hB.size; (try simp only [World.size_alloc, World.size_setCell, World.size_drew] at hzB); obtain ⟨hcB, hfB⟩ := bcell hB))
  refine (HCP.out _).mono ?_
  rintro e w1 ⟨rfl, hB1⟩
  go_wp2_with fail
  refine (HCS.out _).mono ?_
  rintro e w2 ⟨rfl, hB2⟩
  have hz1 := hB1.size
  have hz2 := hB2.size
  have HB02 := Lib.hid ((hB.trans (hB1.mono hB.size)).trans (hB2.mono (Nat.le_trans hB.size hz1)))
  clear hB hzB hcB hfB hB1 hB2 hz1 hz2
  go_wp2_with fail
  obtain ⟨A, hAd⟩ : ∃ A, A = w2.heap.size := ⟨_, rfl⟩
  have hA0 := blk_new w2 (Obj.cells #[Value.int .i64 1, Value.int .i64 2, Value.int .i64 4, Value.int .i64 8] 3)
  have hW0 : Below w.heap.size w (w2.alloc (Obj.cells #[Value.int .i64 1, Value.int .i64 2, Value.int .i64 4, Value.int .i64 8] 3)) := HB02.out.alloc HB02.out.size _
  rw [← hAd] at hA0 ⊢
  clear hAd HB02
  go_loopw [22] (fun v22 wr => ∃ k : Nat, k ≤ 4 ∧ v22 = .int .i64 (k : Int) ∧ wr.heap[A]? = some (.cells #[.int .i64 1, .int .i64 2, .int .i64 4, .int .i64 8] 3 (0, 0)) ∧ Below w.heap.size w wr) (fun v22 _ => 4 - (intOf v22).toNat)
  case atStart => exact ⟨0, by omega, rfl, hA0, hW0⟩
  case round =>
    obtain ⟨k, hk, rfl, hA, hBW⟩ := hrel
    have HBW := Lib.hid hBW
    have lA := blk_lt hA
    clear hBW hA0 hW0
    have hk5 : k = 0 ∨ k = 1 ∨ k = 2 ∨ k = 3 ∨ k = 4 := by omega
    rcases hk5 with rfl | rfl | rfl | rfl | rfl
    · have c0 : wr.cell? ⟨A, 0, none⟩ = some (.int .i64 1) := by rw [blk_cell hA]; rfl
      -- 1: the size; 256: its bound; 128: half of it; HP1.out: the plain number's fact; HS1.out: the signed one's
      have hnp := fun (W : World) => lexNumber_calls P 1 false W (by omega)
      have hns := fun (W : World) => lexNumber_calls S 1 true W (by omega)
      rw [HP1.out] at hnp
      rw [HS1.out] at hns
      by_cases a1 : n / 256 = 0
      · have b1 : (n / 256 == 0) = true := by rw [beq_iff_eq]; exact a1
        rw [if_pos a1] at hnp
        clear a1
        by_cases a2 : i / 128 = 0 ∨ i / 128 = -1
        · rw [if_pos a2] at hns
          rcases a2 with a2 | a2
          · have b2 : (i / 128 == 0) = true := by rw [beq_iff_eq]; exact a2
            clear a2
            go_wp2_with fail
            refine (hnp _).mono ?_
            rintro e w2 ⟨rfl, hB2⟩
            simp only [numV]
            go_wp2_with fail
            refine (hns _).mono ?_
            rintro e w3 ⟨rfl, hB3⟩
            simp only [numV]
            have hz2 := hB2.size
            go_wp2_with fail
            go_roundw
            case rel =>
              refine ⟨_, ?_, rfl, blk_below (blk_below hA hB2 lA) hB3 (by omega), HBW.out.trans ((hB2.trans (hB3.mono hz2)).mono HBW.out.size)⟩
              first | decide | simp
            case measure => simp [intOf]
          · have b2 : (i / 128 == 0) = false := by rw [beq_eq_false_iff_ne]; omega
            have b3 : (i / 128 == -1) = true := by rw [beq_iff_eq]; exact a2
            clear a2
            go_wp2_with fail
            refine (hnp _).mono ?_
            rintro e w2 ⟨rfl, hB2⟩
            simp only [numV]
            go_wp2_with fail
            refine (hns _).mono ?_
            rintro e w3 ⟨rfl, hB3⟩
            simp only [numV]
            have hz2 := hB2.size
            go_wp2_with fail
            go_roundw
            case rel =>
              refine ⟨_, ?_, rfl, blk_below (blk_below hA hB2 lA) hB3 (by omega), HBW.out.trans ((hB2.trans (hB3.mono hz2)).mono HBW.out.size)⟩
              first | decide | simp
            case measure => simp [intOf]
        · have b2 : (i / 128 == 0) = false := by rw [beq_eq_false_iff_ne]; exact fun h => a2 (.inl h)
          have b3 : (i / 128 == -1) = false := by rw [beq_eq_false_iff_ne]; exact fun h => a2 (.inr h)
          rw [if_neg a2] at hns
          clear a2
          go_wp2_with fail
          refine (hnp _).mono ?_
          rintro e w2 ⟨rfl, hB2⟩
          simp only [numV]
          go_wp2_with fail
          refine (hns _).mono ?_
          rintro e w3 ⟨rfl, hB3⟩
          simp only [numV]
          have hz2 := hB2.size
          go_wp2_with fail
          go_roundw
          case rel =>
            refine ⟨_, ?_, rfl, blk_below (blk_below hA hB2 lA) hB3 (by omega), HBW.out.trans ((hB2.trans (hB3.mono hz2)).mono HBW.out.size)⟩
            first | decide | simp
          case measure => simp [intOf]
      · have b1 : (n / 256 == 0) = false := by rw [beq_eq_false_iff_ne]; exact a1
        rw [if_neg a1] at hnp
        clear a1
        by_cases a2 : i / 128 = 0 ∨ i / 128 = -1
        · rw [if_pos a2] at hns
          rcases a2 with a2 | a2
          · have b2 : (i / 128 == 0) = true := by rw [beq_iff_eq]; exact a2
            clear a2
            go_wp2_with fail
            refine (hnp _).mono ?_
            rintro e w2 ⟨rfl, hB2⟩
            simp only [numV]
            go_wp2_with fail
            refine (hns _).mono ?_
            rintro e w3 ⟨rfl, hB3⟩
            simp only [numV]
            have hz2 := hB2.size
            go_wp2_with fail
            go_roundw
            case rel =>
              refine ⟨_, ?_, rfl, blk_below (blk_below hA hB2 lA) hB3 (by omega), HBW.out.trans ((hB2.trans (hB3.mono hz2)).mono HBW.out.size)⟩
              first | decide | simp
            case measure => simp [intOf]
          · have b2 : (i / 128 == 0) = false := by rw [beq_eq_false_iff_ne]; omega
            have b3 : (i / 128 == -1) = true := by rw [beq_iff_eq]; exact a2
            clear a2
            go_wp2_with fail
            refine (hnp _).mono ?_
            rintro e w2 ⟨rfl, hB2⟩
            simp only [numV]
            go_wp2_with fail
            refine (hns _).mono ?_
            rintro e w3 ⟨rfl, hB3⟩
            simp only [numV]
            have hz2 := hB2.size
            go_wp2_with fail
            go_roundw
            case rel =>
              refine ⟨_, ?_, rfl, blk_below (blk_below hA hB2 lA) hB3 (by omega), HBW.out.trans ((hB2.trans (hB3.mono hz2)).mono HBW.out.size)⟩
              first | decide | simp
            case measure => simp [intOf]
        · have b2 : (i / 128 == 0) = false := by rw [beq_eq_false_iff_ne]; exact fun h => a2 (.inl h)
          have b3 : (i / 128 == -1) = false := by rw [beq_eq_false_iff_ne]; exact fun h => a2 (.inr h)
          rw [if_neg a2] at hns
          clear a2
          go_wp2_with fail
          refine (hnp _).mono ?_
          rintro e w2 ⟨rfl, hB2⟩
          simp only [numV]
          go_wp2_with fail
          refine (hns _).mono ?_
          rintro e w3 ⟨rfl, hB3⟩
          simp only [numV]
          have hz2 := hB2.size
          go_wp2_with fail
          go_roundw
          case rel =>
            refine ⟨_, ?_, rfl, blk_below (blk_below hA hB2 lA) hB3 (by omega), HBW.out.trans ((hB2.trans (hB3.mono hz2)).mono HBW.out.size)⟩
            first | decide | simp
          case measure => simp [intOf]
    · have c0 : wr.cell? ⟨A, 1, none⟩ = some (.int .i64 2) := by rw [blk_cell hA]; rfl
      -- 2: the size; 65536: its bound; 32768: half of it; HP2.out: the plain number's fact; HS2.out: the signed one's
      have hnp := fun (W : World) => lexNumber_calls P 2 false W (by omega)
      have hns := fun (W : World) => lexNumber_calls S 2 true W (by omega)
      rw [HP2.out] at hnp
      rw [HS2.out] at hns
      by_cases a1 : n / 65536 = 0
      · have b1 : (n / 65536 == 0) = true := by rw [beq_iff_eq]; exact a1
        rw [if_pos a1] at hnp
        clear a1
        by_cases a2 : i / 32768 = 0 ∨ i / 32768 = -1
        · rw [if_pos a2] at hns
          rcases a2 with a2 | a2
          · have b2 : (i / 32768 == 0) = true := by rw [beq_iff_eq]; exact a2
            clear a2
            go_wp2_with fail
            refine (hnp _).mono ?_
            rintro e w2 ⟨rfl, hB2⟩
            simp only [numV]
            go_wp2_with fail
            refine (hns _).mono ?_
            rintro e w3 ⟨rfl, hB3⟩
            simp only [numV]
            have hz2 := hB2.size
            go_wp2_with fail
            go_roundw
            case rel =>
              refine ⟨_, ?_, rfl, blk_below (blk_below hA hB2 lA) hB3 (by omega), HBW.out.trans ((hB2.trans (hB3.mono hz2)).mono HBW.out.size)⟩
              first | decide | simp
            case measure => simp [intOf]
          · have b2 : (i / 32768 == 0) = false := by rw [beq_eq_false_iff_ne]; omega
            have b3 : (i / 32768 == -1) = true := by rw [beq_iff_eq]; exact a2
            clear a2
            go_wp2_with fail
            refine (hnp _).mono ?_
            rintro e w2 ⟨rfl, hB2⟩
            simp only [numV]
            go_wp2_with fail
            refine (hns _).mono ?_
            rintro e w3 ⟨rfl, hB3⟩
            simp only [numV]
            have hz2 := hB2.size
            go_wp2_with fail
            go_roundw
            case rel =>
              refine ⟨_, ?_, rfl, blk_below (blk_below hA hB2 lA) hB3 (by omega), HBW.out.trans ((hB2.trans (hB3.mono hz2)).mono HBW.out.size)⟩
              first | decide | simp
            case measure => simp [intOf]
        · have b2 : (i / 32768 == 0) = false := by rw [beq_eq_false_iff_ne]; exact fun h => a2 (.inl h)
          have b3 : (i / 32768 == -1) = false := by rw [beq_eq_false_iff_ne]; exact fun h => a2 (.inr h)
          rw [if_neg a2] at hns
          clear a2
          go_wp2_with fail
          refine (hnp _).mono ?_
          rintro e w2 ⟨rfl, hB2⟩
          simp only [numV]
          go_wp2_with fail
          refine (hns _).mono ?_
          rintro e w3 ⟨rfl, hB3⟩
          simp only [numV]
          have hz2 := hB2.size
          go_wp2_with fail
          go_roundw
          case rel =>
            refine ⟨_, ?_, rfl, blk_below (blk_below hA hB2 lA) hB3 (by omega), HBW.out.trans ((hB2.trans (hB3.mono hz2)).mono HBW.out.size)⟩
            first | decide | simp
          case measure => simp [intOf]
      · have b1 : (n / 65536 == 0) = false := by rw [beq_eq_false_iff_ne]; exact a1
        rw [if_neg a1] at hnp
        clear a1
        by_cases a2 : i / 32768 = 0 ∨ i / 32768 = -1
        · rw [if_pos a2] at hns
          rcases a2 with a2 | a2
          · have b2 : (i / 32768 == 0) = true := by rw [beq_iff_eq]; exact a2
            clear a2
            go_wp2_with fail
            refine (hnp _).mono ?_
            rintro e w2 ⟨rfl, hB2⟩
            simp only [numV]
            go_wp2_with fail
            refine (hns _).mono ?_
            rintro e w3 ⟨rfl, hB3⟩
            simp only [numV]
            have hz2 := hB2.size
            go_wp2_with fail
            go_roundw
            case rel =>
              refine ⟨_, ?_, rfl, blk_below (blk_below hA hB2 lA) hB3 (by omega), HBW.out.trans ((hB2.trans (hB3.mono hz2)).mono HBW.out.size)⟩
              first | decide | simp
            case measure => simp [intOf]
          · have b2 : (i / 32768 == 0) = false := by rw [beq_eq_false_iff_ne]; omega
            have b3 : (i / 32768 == -1) = true := by rw [beq_iff_eq]; exact a2
            clear a2
            go_wp2_with fail
            refine (hnp _).mono ?_
            rintro e w2 ⟨rfl, hB2⟩
            simp only [numV]
            go_wp2_with fail
            refine (hns _).mono ?_
            rintro e w3 ⟨rfl, hB3⟩
            simp only [numV]
            have hz2 := hB2.size
            go_wp2_with fail
            go_roundw
            case rel =>
              refine ⟨_, ?_, rfl, blk_below (blk_below hA hB2 lA) hB3 (by omega), HBW.out.trans ((hB2.trans (hB3.mono hz2)).mono HBW.out.size)⟩
              first | decide | simp
            case measure => simp [intOf]
        · have b2 : (i / 32768 == 0) = false := by rw [beq_eq_false_iff_ne]; exact fun h => a2 (.inl h)
          have b3 : (i / 32768 == -1) = false := by rw [beq_eq_false_iff_ne]; exact fun h => a2 (.inr h)
          rw [if_neg a2] at hns
          clear a2
          go_wp2_with fail
          refine (hnp _).mono ?_
          rintro e w2 ⟨rfl, hB2⟩
          simp only [numV]
          go_wp2_with fail
          refine (hns _).mono ?_
          rintro e w3 ⟨rfl, hB3⟩
          simp only [numV]
          have hz2 := hB2.size
          go_wp2_with fail
          go_roundw
          case rel =>
            refine ⟨_, ?_, rfl, blk_below (blk_below hA hB2 lA) hB3 (by omega), HBW.out.trans ((hB2.trans (hB3.mono hz2)).mono HBW.out.size)⟩
            first | decide | simp
          case measure => simp [intOf]
    · have c0 : wr.cell? ⟨A, 2, none⟩ = some (.int .i64 4) := by rw [blk_cell hA]; rfl
      -- 4: the size; 4294967296: its bound; 2147483648: half of it; HP4.out: the plain number's fact; HS4.out: the signed one's
      have hnp := fun (W : World) => lexNumber_calls P 4 false W (by omega)
      have hns := fun (W : World) => lexNumber_calls S 4 true W (by omega)
      rw [HP4.out] at hnp
      rw [HS4.out] at hns
      by_cases a1 : n / 4294967296 = 0
      · have b1 : (n / 4294967296 == 0) = true := by rw [beq_iff_eq]; exact a1
        rw [if_pos a1] at hnp
        clear a1
        by_cases a2 : i / 2147483648 = 0 ∨ i / 2147483648 = -1
        · rw [if_pos a2] at hns
          rcases a2 with a2 | a2
          · have b2 : (i / 2147483648 == 0) = true := by rw [beq_iff_eq]; exact a2
            clear a2
            go_wp2_with fail
            refine (hnp _).mono ?_
            rintro e w2 ⟨rfl, hB2⟩
            simp only [numV]
            go_wp2_with fail
            refine (hns _).mono ?_
            rintro e w3 ⟨rfl, hB3⟩
            simp only [numV]
            have hz2 := hB2.size
            go_wp2_with fail
            go_roundw
            case rel =>
              refine ⟨_, ?_, rfl, blk_below (blk_below hA hB2 lA) hB3 (by omega), HBW.out.trans ((hB2.trans (hB3.mono hz2)).mono HBW.out.size)⟩
              first | decide | simp
            case measure => simp [intOf]
          · have b2 : (i / 2147483648 == 0) = false := by rw [beq_eq_false_iff_ne]; omega
            have b3 : (i / 2147483648 == -1) = true := by rw [beq_iff_eq]; exact a2
            clear a2
            go_wp2_with fail
            refine (hnp _).mono ?_
            rintro e w2 ⟨rfl, hB2⟩
            simp only [numV]
            go_wp2_with fail
            refine (hns _).mono ?_
            rintro e w3 ⟨rfl, hB3⟩
            simp only [numV]
            have hz2 := hB2.size
            go_wp2_with fail
            go_roundw
            case rel =>
              refine ⟨_, ?_, rfl, blk_below (blk_below hA hB2 lA) hB3 (by omega), HBW.out.trans ((hB2.trans (hB3.mono hz2)).mono HBW.out.size)⟩
              first | decide | simp
            case measure => simp [intOf]
        · have b2 : (i / 2147483648 == 0) = false := by rw [beq_eq_false_iff_ne]; exact fun h => a2 (.inl h)
          have b3 : (i / 2147483648 == -1) = false := by rw [beq_eq_false_iff_ne]; exact fun h => a2 (.inr h)
          rw [if_neg a2] at hns
          clear a2
          go_wp2_with fail
          refine (hnp _).mono ?_
          rintro e w2 ⟨rfl, hB2⟩
          simp only [numV]
          go_wp2_with fail
          refine (hns _).mono ?_
          rintro e w3 ⟨rfl, hB3⟩
          simp only [numV]
          have hz2 := hB2.size
          go_wp2_with fail
          go_roundw
          case rel =>
            refine ⟨_, ?_, rfl, blk_below (blk_below hA hB2 lA) hB3 (by omega), HBW.out.trans ((hB2.trans (hB3.mono hz2)).mono HBW.out.size)⟩
            first | decide | simp
          case measure => simp [intOf]
      · have b1 : (n / 4294967296 == 0) = false := by rw [beq_eq_false_iff_ne]; exact a1
        rw [if_neg a1] at hnp
        clear a1
        by_cases a2 : i / 2147483648 = 0 ∨ i / 2147483648 = -1
        · rw [if_pos a2] at hns
          rcases a2 with a2 | a2
          · have b2 : (i / 2147483648 == 0) = true := by rw [beq_iff_eq]; exact a2
            clear a2
            go_wp2_with fail
            refine (hnp _).mono ?_
            rintro e w2 ⟨rfl, hB2⟩
            simp only [numV]
            go_wp2_with fail
            refine (hns _).mono ?_
            rintro e w3 ⟨rfl, hB3⟩
            simp only [numV]
            have hz2 := hB2.size
            go_wp2_with fail
            go_roundw
            case rel =>
              refine ⟨_, ?_, rfl, blk_below (blk_below hA hB2 lA) hB3 (by omega), HBW.out.trans ((hB2.trans (hB3.mono hz2)).mono HBW.out.size)⟩
              first | decide | simp
            case measure => simp [intOf]
          · have b2 : (i / 2147483648 == 0) = false := by rw [beq_eq_false_iff_ne]; omega
            have b3 : (i / 2147483648 == -1) = true := by rw [beq_iff_eq]; exact a2
            clear a2
            go_wp2_with fail
            refine (hnp _).mono ?_
            rintro e w2 ⟨rfl, hB2⟩
            simp only [numV]
            go_wp2_with fail
            refine (hns _).mono ?_
            rintro e w3 ⟨rfl, hB3⟩
            simp only [numV]
            have hz2 := hB2.size
            go_wp2_with fail
            go_roundw
            case rel =>
              refine ⟨_, ?_, rfl, blk_below (blk_below hA hB2 lA) hB3 (by omega), HBW.out.trans ((hB2.trans (hB3.mono hz2)).mono HBW.out.size)⟩
              first | decide | simp
            case measure => simp [intOf]
        · have b2 : (i / 2147483648 == 0) = false := by rw [beq_eq_false_iff_ne]; exact fun h => a2 (.inl h)
          have b3 : (i / 2147483648 == -1) = false := by rw [beq_eq_false_iff_ne]; exact fun h => a2 (.inr h)
          rw [if_neg a2] at hns
          clear a2
          go_wp2_with fail
          refine (hnp _).mono ?_
          rintro e w2 ⟨rfl, hB2⟩
          simp only [numV]
          go_wp2_with fail
          refine (hns _).mono ?_
          rintro e w3 ⟨rfl, hB3⟩
          simp only [numV]
          have hz2 := hB2.size
          go_wp2_with fail
          go_roundw
          case rel =>
            refine ⟨_, ?_, rfl, blk_below (blk_below hA hB2 lA) hB3 (by omega), HBW.out.trans ((hB2.trans (hB3.mono hz2)).mono HBW.out.size)⟩
            first | decide | simp
          case measure => simp [intOf]
    · have c0 : wr.cell? ⟨A, 3, none⟩ = some (.int .i64 8) := by rw [blk_cell hA]; rfl
      have hnp := fun (W : World) => lexNumber_calls P 8 false W (by omega)
      have hns := fun (W : World) => lexNumber_calls S 8 true W (by omega)
      rw [HP8.out] at hnp
      rw [HS8.out] at hns
      have a2 : i / 9223372036854775808 = 0 ∨ i / 9223372036854775808 = -1 := by omega
      rcases a2 with a2 | a2
      · have b2 : (i / 9223372036854775808 == 0) = true := by rw [beq_iff_eq]; exact a2
        clear a2
        go_wp2_with fail
        refine (hnp _).mono ?_
        rintro e w2 ⟨rfl, hB2⟩
        simp only [numV]
        go_wp2_with fail
        refine (hns _).mono ?_
        rintro e w3 ⟨rfl, hB3⟩
        simp only [numV]
        have hz2 := hB2.size
        go_wp2_with fail
        go_roundw
        case rel =>
          refine ⟨_, ?_, rfl, blk_below (blk_below hA hB2 lA) hB3 (by omega), HBW.out.trans ((hB2.trans (hB3.mono hz2)).mono HBW.out.size)⟩
          first | decide | simp
        case measure => simp [intOf]
      · have b2 : (i / 9223372036854775808 == 0) = false := by rw [beq_eq_false_iff_ne]; omega
        have b3 : (i / 9223372036854775808 == -1) = true := by rw [beq_iff_eq]; exact a2
        clear a2
        go_wp2_with fail
        refine (hnp _).mono ?_
        rintro e w2 ⟨rfl, hB2⟩
        simp only [numV]
        go_wp2_with fail
        refine (hns _).mono ?_
        rintro e w3 ⟨rfl, hB3⟩
        simp only [numV]
        have hz2 := hB2.size
        go_wp2_with fail
        go_roundw
        case rel =>
          refine ⟨_, ?_, rfl, blk_below (blk_below hA hB2 lA) hB3 (by omega), HBW.out.trans ((hB2.trans (hB3.mono hz2)).mono HBW.out.size)⟩
          first | decide | simp
        case measure => simp [intOf]
    · go_wp2_with fail
      go_ret
      exact ⟨rfl, HBW.out⟩

end Go.Proofs.Ytlfpakopahmdiaa
