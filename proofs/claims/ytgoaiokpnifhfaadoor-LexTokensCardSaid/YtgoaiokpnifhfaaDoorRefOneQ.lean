/-
  The document's tokens: quoted texts, signs, and none.
-/
import Derived.Test.YtgoaiokpnifhfaaDoorRefOneN
import Derived.Test.YtgoaiokpnifhfaaDoorRefUtf
import Derived.Test.YtgoaiokpnifhfaaDoorLexN
namespace Go.Proofs.YtgoaiokpnifhfaaDoor
open Go.RowKit
set_option linter.unusedVariables false
set_option linter.unusedSimpArgs false

def OneQuotePost (w : World) (s : ByteArray) (i : Nat) (e : Ending) (w' : World) : Prop :=
  IfPost (bt s (spanEnd s inQuote (i + 1)) = 34 ∧ utf8Bad (s.extract (i + 1) (spanEnd s inQuote (i + 1))) < 0) (OneOk w i 3 (s.extract (i + 1) (spanEnd s inQuote (i + 1))) (spanEnd s inQuote (i + 1) + 1) e w') (OneNo w i e w')


set_option maxHeartbeats 4000000 in
set_option maxRecDepth 100000 in
theorem one_quote (s sg : ByteArray) (i : Nat) (w : World) (hT : Tabs w) (hs : s.size ≤ 100000) (hi : i < s.size) (hc : bt s i = 34) :
    Calls Tryd.prog 44 #[.string s, .string sg, .int .i64 (i : Int)] w (OneQuotePost w s i) := by
  have hiI : (i : Int) < (s.size : Int) := by omega
  have hi0 : (0 : Int) ≤ (i : Int) := by omega
  have hbi := bt_in s i hi
  have hcl := fun (W : World) => refLetter_calls (bt s i) W (bt_bd s i).1 (bt_bd s i).2
  have hcd := fun (W : World) => refDigit_calls (bt s i) W (bt_bd s i).1 (bt_bd s i).2
  rw [hc] at hbi hcl hcd
  rw [show isLetter 34 = false from rfl] at hcl
  rw [show isDigit 34 = false from rfl] at hcd
  have HT := Lib.hid hT
  clear hc hT
  go_enter Tryd.func44, Tryd.ntmps44
  go_wp2_with fail
  refine (hcl _).mono ?_
  rintro e w' ⟨rfl, rfl⟩
  go_wp2_with fail
  refine (hcd _).mono ?_
  rintro e w' ⟨rfl, rfl⟩
  clear hcl hcd hbi
  go_wp2_with fail
  go_loop [10] (fun v10 => ∃ k : Nat, i + 1 ≤ k ∧ k ≤ s.size ∧ v10 = .int .i64 (k : Int) ∧ Hid (∀ x, i + 1 ≤ x → x < k → inQuote (bt s x) = true)) (fun v10 => s.size - (intOf v10).toNat)
  case atStart => exact ⟨i + 1, Nat.le_refl _, by omega, by go_num, fun x h1 h2 => by omega⟩
  case round =>
    obtain ⟨k, hik, hks, rfl, hall⟩ := hrel
    have hikI : (i : Int) + 1 ≤ (k : Int) := by omega
    by_cases hk : k < s.size
    · have hkI : (k : Int) < (s.size : Int) := by omega
      have hdk : decide ((k : Int) < (s.size : Int)) = true := decide_eq_true hkI
      have hbk := bt_in s k hk
      by_cases h1 : 32 ≤ bt s k
      · have d1 : decide ((32 : Int) ≤ ((s[k]'hk).toNat : Int)) = true := by rw [hbk]; exact decide_eq_true h1
        by_cases h34 : bt s k = 34
        · have d2 : (((s[k]'hk).toNat : Int) != 34) = false := by rw [hbk, h34]; rfl
          have hse : spanEnd s inQuote (i + 1) = k := spanEnd_eq s inQuote (i + 1) k hik hks hall.out (.inr (by rw [h34]; rfl))
          have HSE := Lib.hid hse
          have hca := fun (W : World) => refAt_calls s (k : Int) (by omega) hs W
          rw [at_nat, h34] at hca
          have H34 := Lib.hid h34
          have hTz : (s.extract (i + 1) k).size ≤ 100000 := by rw [piece_size _ _ _ hks]; omega
          obtain ⟨T, hT⟩ : ∃ T, T = s.extract (i + 1) k := ⟨_, rfl⟩
          rw [← hT] at hTz
          have hTe : s.extract (i + 1) k = T := hT.symm
          have HTE := Lib.hid hTe
          clear hse h34 hbk h1 hT
          go_wp2_with fail
          refine (hca _).mono ?_
          rintro e w' ⟨rfl, rfl⟩
          have kc := fun (w : World) => Lib.run_convert_string_bytes (P := Tryd.prog) w 9 34 5 T Tryd.underlying9 Tryd.underlying34 Tryd.underlying5
          go_wp2_with fail
          obtain ⟨W1, hW1⟩ : ∃ W1, W1 = (w.alloc (Obj.cells #[Value.int IntKind.i64 0, Value.string { data := #[] }, Value.int IntKind.i64 0] 102)).alloc (Obj.cells #[Value.int IntKind.i64 0, Value.string { data := #[] }, Value.int IntKind.i64 (i : Int)] 102) := ⟨_, rfl⟩
          have hz : W1.heap.size = w.heap.size + 1 + 1 := by rw [hW1]; simp
          have hB1 : Below w.heap.size w W1 := by rw [hW1]; (repeat' (first | (with_reducible exact Below.refl _ _) | (with_reducible assumption) | (with_reducible refine Below.alloc ?_ ?_ _) | (with_reducible refine Below.drew ?_) | (with_reducible refine Below.setCell ?_ ?_ _) | (with_reducible refine Below.trans ?_ (Below.mono (by assumption) ?_)) | go_size))
          have hF0 : W1.heap[w.heap.size]? = some (Obj.cells #[Value.int IntKind.i64 0, Value.string { data := #[] }, Value.int IntKind.i64 0] 102 (0, 0)) := by rw [hW1]; exact blk_alloc (blk_new _ _) _
          have hF1 : W1.heap[w.heap.size + 1]? = some (Obj.cells #[Value.int IntKind.i64 0, Value.string { data := #[] }, Value.int IntKind.i64 (i : Int)] 102 (0, 0)) := by
            rw [hW1]
            have := blk_new (w.alloc (Obj.cells #[Value.int IntKind.i64 0, Value.string { data := #[] }, Value.int IntKind.i64 0] 102)) (Obj.cells #[Value.int IntKind.i64 0, Value.string { data := #[] }, Value.int IntKind.i64 (i : Int)] 102)
            simpa using this
          rw [← hW1]
          clear hW1 kc
          have hB2 : Below w.heap.size w (Lib.bytesWorld W1 5 T) := hB1.trans ((bytes_below W1 5 T).mono hB1.size)
          have hcal := refText_calls W1.heap.size (grownCap W1 T.size 0 5) T hTz (grownCap_ge _ _ _ _) (Lib.bytesWorld W1 5 T) (HT.out.below hB2) (bytes_at W1 5 T)
          have hG0 := blk_below hF0 (bytes_below W1 5 T) (by omega)
          have hG1 := blk_below hF1 (bytes_below W1 5 T) (by omega)
          have hsz : w.heap.size + 1 + 1 ≤ (Lib.bytesWorld W1 5 T).heap.size := by have := (bytes_below W1 5 T).size; omega
          rw [hz] at hcal
          clear hz hB1 hF0 hF1
          generalize Lib.bytesWorld W1 5 T = W2 at *
          generalize grownCap W1 T.size 0 5 = cp at *
          obtain ⟨O, hO⟩ : ∃ O, O = w.heap.size := ⟨_, rfl⟩
          rw [← hO] at hcal hG0 hG1 hsz ⊢
          have hOw : w.heap.size ≤ O := by omega
          have HB2 := Lib.hid hB2
          clear hO hB2
          cases hu : decide (utf8Bad T < 0) with
          | true =>
            rw [hu] at hcal
            have HU := Lib.hid (of_decide_eq_true hu)
            clear hu
            refine hcal.mono ?_
            rintro e w3 ⟨rfl, hB3⟩
            have hH0 := blk_below hG0 hB3 (by omega)
            have hH1 := blk_below hG1 hB3 (by omega)
            have HB4 := Lib.hid (HB2.out.trans (hB3.mono HB2.out.size))
            have r0 : w3.cell? ⟨O + 1, 0, none⟩ = some (.int .i64 0) := by rw [blk_cell hH1]; rfl
            have r1 : w3.cell? ⟨O + 1, 1, none⟩ = some (.string ⟨#[]⟩) := by rw [blk_cell hH1]; rfl
            have r2 : w3.cell? ⟨O + 1, 2, none⟩ = some (.int .i64 (i : Int)) := by rw [blk_cell hH1]; rfl
            have s0 : w3.frozen? ⟨O + 1, 0, none⟩ = false := blk_frozen hH1 _
            have s1 : w3.frozen? ⟨O + 1, 1, none⟩ = false := blk_frozen hH1 _
            have s2 : w3.frozen? ⟨O + 1, 2, none⟩ = false := blk_frozen hH1 _
            have r3 : w3.cell? ⟨O, 0, none⟩ = some (.int .i64 0) := by rw [blk_cell hH0]; rfl
            have r4 : w3.cell? ⟨O, 1, none⟩ = some (.string ⟨#[]⟩) := by rw [blk_cell hH0]; rfl
            have r5 : w3.cell? ⟨O, 2, none⟩ = some (.int .i64 0) := by rw [blk_cell hH0]; rfl
            have s3 : w3.frozen? ⟨O, 0, none⟩ = false := blk_frozen hH0 _
            have s4 : w3.frozen? ⟨O, 1, none⟩ = false := blk_frozen hH0 _
            have s5 : w3.frozen? ⟨O, 2, none⟩ = false := blk_frozen hH0 _
            clear hH0 hH1 hG0 hG1 hB3 hcal
            go_wp2_with fail
            refine bodyPost_ret (v := oneV 3 T i (k + 1) true) (by simp [results, Tryd.results44, go_sem, oneV, *]) rfl ?_
            unfold OneQuotePost
            rw [HSE.out, HTE.out]
            refine ifPost_yes ⟨H34.out, HU.out⟩ ?_
            have hB4 := HB4.out
            exact ⟨rfl, by (repeat' (first | (with_reducible exact Below.refl _ _) | (with_reducible assumption) | (with_reducible refine Below.alloc ?_ ?_ _) | (with_reducible refine Below.drew ?_) | (with_reducible refine Below.setCell ?_ ?_ _) | (with_reducible refine Below.trans ?_ (Below.mono (by assumption) ?_)) | go_size))⟩
          | false =>
            rw [hu] at hcal
            have HU := Lib.hid (of_decide_eq_false hu)
            clear hu
            refine hcal.mono ?_
            rintro e w3 ⟨rfl, hB3⟩
            have hH0 := blk_below hG0 hB3 (by omega)
            have hH1 := blk_below hG1 hB3 (by omega)
            have HB4 := Lib.hid (HB2.out.trans (hB3.mono HB2.out.size))
            have r0 : w3.cell? ⟨O + 1, 0, none⟩ = some (.int .i64 0) := by rw [blk_cell hH1]; rfl
            have r1 : w3.cell? ⟨O + 1, 1, none⟩ = some (.string ⟨#[]⟩) := by rw [blk_cell hH1]; rfl
            have r2 : w3.cell? ⟨O + 1, 2, none⟩ = some (.int .i64 (i : Int)) := by rw [blk_cell hH1]; rfl
            have s0 : w3.frozen? ⟨O + 1, 0, none⟩ = false := blk_frozen hH1 _
            have s1 : w3.frozen? ⟨O + 1, 1, none⟩ = false := blk_frozen hH1 _
            have s2 : w3.frozen? ⟨O + 1, 2, none⟩ = false := blk_frozen hH1 _
            have r3 : w3.cell? ⟨O, 0, none⟩ = some (.int .i64 0) := by rw [blk_cell hH0]; rfl
            have r4 : w3.cell? ⟨O, 1, none⟩ = some (.string ⟨#[]⟩) := by rw [blk_cell hH0]; rfl
            have r5 : w3.cell? ⟨O, 2, none⟩ = some (.int .i64 0) := by rw [blk_cell hH0]; rfl
            have s3 : w3.frozen? ⟨O, 0, none⟩ = false := blk_frozen hH0 _
            have s4 : w3.frozen? ⟨O, 1, none⟩ = false := blk_frozen hH0 _
            have s5 : w3.frozen? ⟨O, 2, none⟩ = false := blk_frozen hH0 _
            clear hH0 hH1 hG0 hG1 hB3 hcal
            go_wp2_with fail
            refine bodyPost_ret (v := oneV 0 ⟨#[]⟩ i k false) (by simp [results, Tryd.results44, go_sem, oneV, *]) rfl ?_
            unfold OneQuotePost
            rw [HSE.out, HTE.out]
            refine ifPost_no (fun h => by have h1 := HU.out; have h2 := h.2; omega) ?_
            have hB4 := HB4.out
            exact ⟨_, _, _, rfl, by (repeat' (first | (with_reducible exact Below.refl _ _) | (with_reducible assumption) | (with_reducible refine Below.alloc ?_ ?_ _) | (with_reducible refine Below.drew ?_) | (with_reducible refine Below.setCell ?_ ?_ _) | (with_reducible refine Below.trans ?_ (Below.mono (by assumption) ?_)) | go_size))⟩
        · have d2 : (((s[k]'hk).toNat : Int) != 34) = true := by rw [hbk, bne_iff_ne]; exact h34
          by_cases h92 : bt s k = 92
          · have d3 : (((s[k]'hk).toNat : Int) != 92) = false := by rw [hbk, h92]; rfl
            have hq : inQuote (bt s k) = false := by rw [h92]; rfl
            clear hbk h1 h92
            have hse : spanEnd s inQuote (i + 1) = k := spanEnd_eq s inQuote (i + 1) k hik hks hall.out (.inr hq)
            have HSE := Lib.hid hse
            have H34 := Lib.hid h34
            have b34 : (bt s k != 34) = true := by rw [bne_iff_ne]; exact h34
            have hca := fun (W : World) => refAt_calls s (k : Int) (by omega) hs W
            rw [at_nat] at hca
            clear hse h34
            go_wp2_with fail
            refine (hca _).mono ?_
            rintro e w' ⟨rfl, rfl⟩
            go_wp2_with fail
            refine bodyPost_ret (v := oneV 0 ⟨#[]⟩ i k false) (by simp [results, Tryd.results44, go_sem, oneV, *]) rfl ?_
            unfold OneQuotePost
            rw [HSE.out]
            refine ifPost_no (fun h => H34.out h.1) ?_
            exact ⟨_, _, _, rfl, by (repeat' (first | (with_reducible exact Below.refl _ _) | (with_reducible assumption) | (with_reducible refine Below.alloc ?_ ?_ _) | (with_reducible refine Below.drew ?_) | (with_reducible refine Below.setCell ?_ ?_ _) | (with_reducible refine Below.trans ?_ (Below.mono (by assumption) ?_)) | go_size))⟩
          · have d3 : (((s[k]'hk).toNat : Int) != 92) = true := by rw [hbk, bne_iff_ne]; exact h92
            by_cases h127 : bt s k = 127
            · have d4 : (((s[k]'hk).toNat : Int) != 127) = false := by rw [hbk, h127]; rfl
              have hq : inQuote (bt s k) = false := by rw [h127]; rfl
              clear hbk h1 h92 h127
              have hse : spanEnd s inQuote (i + 1) = k := spanEnd_eq s inQuote (i + 1) k hik hks hall.out (.inr hq)
              have HSE := Lib.hid hse
              have H34 := Lib.hid h34
              have b34 : (bt s k != 34) = true := by rw [bne_iff_ne]; exact h34
              have hca := fun (W : World) => refAt_calls s (k : Int) (by omega) hs W
              rw [at_nat] at hca
              clear hse h34
              go_wp2_with fail
              refine (hca _).mono ?_
              rintro e w' ⟨rfl, rfl⟩
              go_wp2_with fail
              refine bodyPost_ret (v := oneV 0 ⟨#[]⟩ i k false) (by simp [results, Tryd.results44, go_sem, oneV, *]) rfl ?_
              unfold OneQuotePost
              rw [HSE.out]
              refine ifPost_no (fun h => H34.out h.1) ?_
              exact ⟨_, _, _, rfl, by (repeat' (first | (with_reducible exact Below.refl _ _) | (with_reducible assumption) | (with_reducible refine Below.alloc ?_ ?_ _) | (with_reducible refine Below.drew ?_) | (with_reducible refine Below.setCell ?_ ?_ _) | (with_reducible refine Below.trans ?_ (Below.mono (by assumption) ?_)) | go_size))⟩
            · have d4 : (((s[k]'hk).toNat : Int) != 127) = true := by rw [hbk, bne_iff_ne]; exact h127
              have HQ := Lib.hid (show inQuote (bt s k) = true by simp [inQuote, h1, h34, h92, h127])
              clear hbk h1 h34 h92 h127
              go_wp2_with fail
              go_round
              case rel =>
                refine ⟨k + 1, by omega, by omega, by go_num, fun x h1 h2 => ?_⟩
                by_cases e : x = k
                · rw [e]; exact HQ.out
                · exact hall.out x h1 (by omega)
              case measure => simp [intOf]; omega
      · have d1 : decide ((32 : Int) ≤ ((s[k]'hk).toNat : Int)) = false := by rw [hbk]; exact decide_eq_false h1
        have h34 : bt s k ≠ 34 := by omega
        have hq : inQuote (bt s k) = false := by simp [inQuote, h1]
        clear hbk h1
        have hse : spanEnd s inQuote (i + 1) = k := spanEnd_eq s inQuote (i + 1) k hik hks hall.out (.inr hq)
        have HSE := Lib.hid hse
        have H34 := Lib.hid h34
        have b34 : (bt s k != 34) = true := by rw [bne_iff_ne]; exact h34
        have hca := fun (W : World) => refAt_calls s (k : Int) (by omega) hs W
        rw [at_nat] at hca
        clear hse h34
        go_wp2_with fail
        refine (hca _).mono ?_
        rintro e w' ⟨rfl, rfl⟩
        go_wp2_with fail
        refine bodyPost_ret (v := oneV 0 ⟨#[]⟩ i k false) (by simp [results, Tryd.results44, go_sem, oneV, *]) rfl ?_
        unfold OneQuotePost
        rw [HSE.out]
        refine ifPost_no (fun h => H34.out h.1) ?_
        exact ⟨_, _, _, rfl, by (repeat' (first | (with_reducible exact Below.refl _ _) | (with_reducible assumption) | (with_reducible refine Below.alloc ?_ ?_ _) | (with_reducible refine Below.drew ?_) | (with_reducible refine Below.setCell ?_ ?_ _) | (with_reducible refine Below.trans ?_ (Below.mono (by assumption) ?_)) | go_size))⟩
    · have hdk : decide ((k : Int) < (s.size : Int)) = false := decide_eq_false (by omega)
      have hke : k = s.size := by omega
      have h34 : bt s k ≠ 34 := by rw [bt_out s k hk]; decide
      have HKE := Lib.hid hke
      clear hke
      have hse : spanEnd s inQuote (i + 1) = k := spanEnd_eq s inQuote (i + 1) k hik hks hall.out (.inl HKE.out)
      have HSE := Lib.hid hse
      have H34 := Lib.hid h34
      have b34 : (bt s k != 34) = true := by rw [bne_iff_ne]; exact h34
      have hca := fun (W : World) => refAt_calls s (k : Int) (by omega) hs W
      rw [at_nat] at hca
      clear hse h34
      go_wp2_with fail
      refine (hca _).mono ?_
      rintro e w' ⟨rfl, rfl⟩
      go_wp2_with fail
      refine bodyPost_ret (v := oneV 0 ⟨#[]⟩ i k false) (by simp [results, Tryd.results44, go_sem, oneV, *]) rfl ?_
      unfold OneQuotePost
      rw [HSE.out]
      refine ifPost_no (fun h => H34.out h.1) ?_
      exact ⟨_, _, _, rfl, by (repeat' (first | (with_reducible exact Below.refl _ _) | (with_reducible assumption) | (with_reducible refine Below.alloc ?_ ?_ _) | (with_reducible refine Below.drew ?_) | (with_reducible refine Below.setCell ?_ ?_ _) | (with_reducible refine Below.trans ?_ (Below.mono (by assumption) ?_)) | go_size))⟩

end Go.Proofs.YtgoaiokpnifhfaaDoor
