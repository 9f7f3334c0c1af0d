/-
  Layer 3: the reader's next token: numbers, quoted texts, signs, or none.
-/
import Derived.Test.YtejpjclbeogajaaDoorTok1
import Derived.Test.YtejpjclbeogajaaDoorStore
import Derived.Test.YtejpjclbeogajaaDoorLexN
namespace Go.Proofs.YtejpjclbeogajaaDoor
open Go.RowKit
set_option linter.unusedVariables false
set_option linter.unusedSimpArgs false


theorem dig_bd' (c : Int) (h : isDigit c = true) : 48 ≤ c ∧ c ≤ 57 := by simpa [isDigit] using h

set_option maxHeartbeats 4000000 in
set_option maxRecDepth 100000 in
theorem tok_rest (R : Nat) (s sg : ByteArray) (i : Nat) (w : World) (hs : s.size ≤ 100000) (hi : i < s.size) (hl : isLetter (bt s i) = false) (hsg : ∀ j, j < sg.size → bt sg j < 128) (hR : w.heap[R]? = some (rdrB s sg i)) :
    Calls Tryd.prog 73 #[.pointer (some ⟨R, 0, none⟩)] w (TokPost w R s sg i) := by
  have hoN := fun hn => oneB_num s sg i hi hl hn
  have hoQ := fun hc => oneB_quote s sg i hi hc
  have hoS := fun hn hc => oneB_sign s sg i hi hl hn hc
  have HON := Lib.hid hoN
  have HOQ := Lib.hid hoQ
  have HOS := Lib.hid hoS
  have HSG := Lib.hid hsg
  clear hoN hoQ hoS hsg
  have c0 : w.cell? ⟨R, 0, none⟩ = some (.string s) := by rw [blk_cell hR]; rfl
  have c1 : w.cell? ⟨R, 1, none⟩ = some (.int .i64 i) := by rw [blk_cell hR]; rfl
  have lR := blk_lt hR
  have hiI : (i : Int) < (s.size : Int) := by omega
  have hi0 : (0 : Int) ≤ (i : Int) := by omega
  have hd : ((i : Int) == (s.size : Int)) = false := by rw [beq_eq_false_iff_ne]; omega
  have hbi := bt_in s i hi
  have hcl := fun (W : World) => lexLetter_calls (bt s i) W (bt_bd s i).1 (bt_bd s i).2
  rw [hl] at hcl
  obtain ⟨c, hc⟩ : ∃ c, c = bt s i := ⟨_, rfl⟩
  rw [← hc] at hcl hbi hl
  have hcb : 0 ≤ c ∧ c < 256 := by rw [hc]; exact bt_bd s i
  have hcb0 := hcb.1
  have hcb1 := hcb.2
  have HBI := Lib.hid hbi
  have HC := Lib.hid hc
  clear hbi hc hcb
  go_enter Tryd.func73, Tryd.ntmps73
  go_wp2_with fail
  go_quiet (fail)
  go_wp2_with fail
  rename Nat => nq1
  go_quiet (fail)
  go_wp2_with fail
  have hA := TokAt.start hR (nq1 + nq)
  obtain ⟨W1, hW1⟩ : ∃ x, x = ((w.alloc (tokB 0 ⟨#[]⟩ 0)).alloc (tokB 0 ⟨#[]⟩ i)).drewN (nq1 + nq) := ⟨_, rfl⟩
  rw [← hW1] at hA
  simp only [tokB] at hW1
  rw [← hW1]
  obtain ⟨G, hG⟩ : ∃ g, g = w.heap.size := ⟨_, rfl⟩
  rw [← hG] at hA lR ⊢
  rw [HBI.out]
  have HA := Lib.hid hA
  have hGle : w.heap.size ≤ G := by omega
  clear hA hW1 hG c0 c1
  refine (hcl _).mono ?_
  rintro e w' ⟨rfl, rfl⟩
  clear hcl
  go_wp2_with fail
  go_upto_region 8 with (fail)
  go_cut [39] (fun v wc => v = .bool (numStart s i) ∧ Below W1.heap.size W1 wc)
  case first =>
    as_aux_lemma =>
      have d0 : W1.cell? ⟨R, 0, none⟩ = some (.string s) := by rw [blk_cell HA.out.rdr]; rfl
      have d1 : W1.cell? ⟨R, 1, none⟩ = some (.int .i64 i) := by rw [blk_cell HA.out.rdr]; rfl
      have lR1 := blk_lt HA.out.rdr
      have hcd := fun (W : World) => lexDigit_calls c W hcb0 hcb1
      cases hdg : isDigit c with
      | true =>
        rw [hdg] at hcd
        have HN := Lib.hid (show numStart s i = true by rw [numStart, ← HC.out, hdg]; rfl)
        clear hdg
        (have hX := BelowOf.cell W1; refine wp_region_below_lit (by kernel_rfl) (by kernel_rfl) ?_; (repeat (go_big_quiet_step ((go_at_call 110; exact quietS (hcd _))))); refine wpQuiet_nil ?_); intro wB hw'; obtain ⟨⟨wB', hB'⟩, hw''⟩ := hw'; have hB : Below (World.heap W1).size W1 wB := (by rw [hw'']; exact hB'); clear hw'' hB' hX; clear wB'; have hzB := hB.size; obtain ⟨hcB, hfB⟩ := bcell hB
        go_wp2_with fail
        go_meet
        case rel => exact ⟨by rw [HN.out], hB⟩
      | false =>
        rw [hdg] at hcd
        by_cases h45 : c = 45
        · have hb45 : (c == 45) = true := by rw [h45]; rfl
          by_cases hi1 : i + 1 < s.size
          · have hi1I : (i : Int) + 1 < (s.size : Int) := by omega
            have hi10 : (0 : Int) ≤ (i : Int) + 1 := by omega
            have hdd : decide ((i : Int) + 1 < (s.size : Int)) = true := decide_eq_true hi1I
            have hb1 := bt_in s (i + 1) hi1
            have hb2 := bt_bd s (i + 1)
            have hce := fun (W : World) => lexDigit_calls (bt s (i + 1)) W hb2.1 hb2.2
            rw [← hb1] at hce
            have HN := Lib.hid (show numStart s i = isDigit (s[i + 1].toNat : Int) by rw [numStart, ← HC.out, hdg, hb1, decide_eq_true h45]; rfl)
            clear hdg h45 hb1 hb2
            (have hX := BelowOf.cell W1; refine wp_region_below_lit (by kernel_rfl) (by kernel_rfl) ?_; (repeat (go_big_quiet_step ((go_at_call 110; first | exact quietS (hcd _) | exact quietS (hce _))))); refine wpQuiet_nil ?_); intro wB hw'; obtain ⟨⟨wB', hB'⟩, hw''⟩ := hw'; have hB : Below (World.heap W1).size W1 wB := (by rw [hw'']; exact hB'); clear hw'' hB' hX; clear wB'; have hzB := hB.size; obtain ⟨hcB, hfB⟩ := bcell hB
            go_wp2_with fail
            go_meet
            case rel => exact ⟨by rw [HN.out], hB⟩
          · have hdd : decide ((i : Int) + 1 < (s.size : Int)) = false := decide_eq_false (by omega)
            have HN := Lib.hid (show numStart s i = false by rw [numStart, ← HC.out, hdg, bt_out s (i + 1) hi1]; simp [isDigit])
            clear hdg h45
            (have hX := BelowOf.cell W1; refine wp_region_below_lit (by kernel_rfl) (by kernel_rfl) ?_; (repeat (go_big_quiet_step ((go_at_call 110; exact quietS (hcd _))))); refine wpQuiet_nil ?_); intro wB hw'; obtain ⟨⟨wB', hB'⟩, hw''⟩ := hw'; have hB : Below (World.heap W1).size W1 wB := (by rw [hw'']; exact hB'); clear hw'' hB' hX; clear wB'; have hzB := hB.size; obtain ⟨hcB, hfB⟩ := bcell hB
            go_wp2_with fail
            go_meet
            case rel => exact ⟨by rw [HN.out], hB⟩
        · have hb45 : (c == 45) = false := by rw [beq_eq_false_iff_ne]; exact h45
          have HN := Lib.hid (show numStart s i = false by rw [numStart, ← HC.out, hdg, decide_eq_false h45]; rfl)
          clear hdg h45
          (have hX := BelowOf.cell W1; refine wp_region_below_lit (by kernel_rfl) (by kernel_rfl) ?_; (repeat (go_big_quiet_step ((go_at_call 110; exact quietS (hcd _))))); refine wpQuiet_nil ?_); intro wB hw'; obtain ⟨⟨wB', hB'⟩, hw''⟩ := hw'; have hB : Below (World.heap W1).size W1 wB := (by rw [hw'']; exact hB'); clear hw'' hB' hX; clear wB'; have hzB := hB.size; obtain ⟨hcB, hfB⟩ := bcell hB
          go_wp2_with fail
          go_meet
          case rel => exact ⟨by rw [HN.out], hB⟩
  obtain ⟨rfl, hBc⟩ := hcut
  have HA0 := Lib.hid (HA.out.below hBc)
  clear HA hBc
  have HA := HA0
  clear HA0
  have hA := HA.out
  have c0 : wc.cell? ⟨R, 0, none⟩ = some (.string s) := by rw [blk_cell hA.rdr]; rfl
  have c1 : wc.cell? ⟨R, 1, none⟩ = some (.int .i64 i) := by rw [blk_cell hA.rdr]; rfl
  have c2 : wc.cell? ⟨R, 2, none⟩ = some (.string sg) := by rw [blk_cell hA.rdr]; rfl
  have fR : wc.frozen? ⟨R, 1, none⟩ = false := blk_frozen hA.rdr _
  have o0 : wc.cell? ⟨G, 0, none⟩ = some (.int .i64 0) := by rw [blk_cell hA.res]; rfl
  have o1 : wc.cell? ⟨G, 1, none⟩ = some (.string ⟨#[]⟩) := by rw [blk_cell hA.res]; rfl
  have o2 : wc.cell? ⟨G, 2, none⟩ = some (.int .i64 0) := by rw [blk_cell hA.res]; rfl
  have q0 : wc.frozen? ⟨G, 0, none⟩ = false := blk_frozen hA.res _
  have q1 : wc.frozen? ⟨G, 1, none⟩ = false := blk_frozen hA.res _
  have q2 : wc.frozen? ⟨G, 2, none⟩ = false := blk_frozen hA.res _
  have t0 : wc.cell? ⟨G + 1, 0, none⟩ = some (.int .i64 0) := by rw [blk_cell hA.tok]; rfl
  have t1 : wc.cell? ⟨G + 1, 1, none⟩ = some (.string ⟨#[]⟩) := by rw [blk_cell hA.tok]; rfl
  have t2 : wc.cell? ⟨G + 1, 2, none⟩ = some (.int .i64 i) := by rw [blk_cell hA.tok]; rfl
  have r0 : wc.frozen? ⟨G + 1, 0, none⟩ = false := blk_frozen hA.tok _
  have r1 : wc.frozen? ⟨G + 1, 1, none⟩ = false := blk_frozen hA.tok _
  clear hA
  cases hn : numStart s i with
  | true =>
    have HN := Lib.hid hn
    clear hn
    go_wp2_with fail
    refine (while_calls 110 isDigit lexDigit_calls enters_digit R s sg (i + 1) _ hs (by omega) (HA.out.step lR).rdr).mono ?_
    rintro e w2 ⟨rfl, hg2, hr2⟩
    have hA2 := (HA.out.step lR).run hg2 hr2 lR
    have hxb := spanEnd_bd s isDigit (i + 1) (by omega)
    obtain ⟨x, hx⟩ : ∃ x, x = spanEnd s isDigit (i + 1) := ⟨_, rfl⟩
    rw [← hx] at hA2 hxb ⊢
    have hxs := hxb.2.1
    have HX := Lib.hid hx
    have HA2 := Lib.hid hA2
    clear hx hxb hg2 hr2
    clear c0 c1 c2 fR o0 o1 o2 q0 q1 q2 t0 t1 t2 r0 r1
    have c0 : w2.cell? ⟨R, 0, none⟩ = some (.string s) := by rw [blk_cell hA2.rdr]; rfl
    have c1 : w2.cell? ⟨R, 1, none⟩ = some (.int .i64 x) := by rw [blk_cell hA2.rdr]; rfl
    have c2 : w2.cell? ⟨R, 2, none⟩ = some (.string sg) := by rw [blk_cell hA2.rdr]; rfl
    have fR : w2.frozen? ⟨R, 1, none⟩ = false := blk_frozen hA2.rdr _
    have o0 : w2.cell? ⟨G, 0, none⟩ = some (.int .i64 0) := by rw [blk_cell hA2.res]; rfl
    have o1 : w2.cell? ⟨G, 1, none⟩ = some (.string ⟨#[]⟩) := by rw [blk_cell hA2.res]; rfl
    have o2 : w2.cell? ⟨G, 2, none⟩ = some (.int .i64 0) := by rw [blk_cell hA2.res]; rfl
    have q0 : w2.frozen? ⟨G, 0, none⟩ = false := blk_frozen hA2.res _
    have q1 : w2.frozen? ⟨G, 1, none⟩ = false := blk_frozen hA2.res _
    have q2 : w2.frozen? ⟨G, 2, none⟩ = false := blk_frozen hA2.res _
    have t0 : w2.cell? ⟨G + 1, 0, none⟩ = some (.int .i64 0) := by rw [blk_cell hA2.tok]; rfl
    have t1 : w2.cell? ⟨G + 1, 1, none⟩ = some (.string ⟨#[]⟩) := by rw [blk_cell hA2.tok]; rfl
    have t2 : w2.cell? ⟨G + 1, 2, none⟩ = some (.int .i64 i) := by rw [blk_cell hA2.tok]; rfl
    have r0 : w2.frozen? ⟨G + 1, 0, none⟩ = false := blk_frozen hA2.tok _
    have r1 : w2.frozen? ⟨G + 1, 1, none⟩ = false := blk_frozen hA2.tok _
    clear hA2
    have hlow : c < 128 := by
      have := HN.out
      rw [numStart, ← HC.out, Bool.or_eq_true, Bool.and_eq_true, decide_eq_true_eq] at this
      rcases this with h | h
      · have := dig_bd' c h; omega
      · omega
    have hE := enc_one s i hi c HC.out hlow
    have hcat := cat_piece s i (i + 1) x (by omega) (by have := HX.out; have := (spanEnd_bd s isDigit (i + 1) (by omega)).1; omega)
    have hEz : (s.extract i (i + 1)).size = 1 := by rw [piece_size _ _ _ (by omega)]; omega
    have hTz : (s.extract i x).size ≤ 100000 := by rw [piece_size _ _ _ hxs]; omega
    obtain ⟨E, hE2⟩ : ∃ E, E = s.extract i (i + 1) := ⟨_, rfl⟩
    obtain ⟨T, hT⟩ : ∃ T, T = s.extract i x := ⟨_, rfl⟩
    rw [← hE2] at hE hcat hEz
    rw [← hT] at hcat hTz
    have hon := HON.out HN.out
    rw [← HX.out, ← hT] at hon
    have HO := Lib.hid hon
    clear hE2 hT hlow hon
    go_wp2_with fail
    have hA3 := HA2.out.fill lR hGle 2 T
    obtain ⟨W3, hW3⟩ : ∃ y, y = (w2.setCell ⟨G + 1, 0, none⟩ (.int .i64 2)).setCell ⟨G + 1, 1, none⟩ (.string T) := ⟨_, rfl⟩
    rw [← hW3] at hA3 ⊢
    clear hcat hE hEz hW3 HA2 hxs
    have HA3 := Lib.hid hA3
    clear c0 c1 c2 fR o0 o1 o2 q0 q1 q2 t0 t1 t2 r0 r1
    have c0 : W3.cell? ⟨R, 0, none⟩ = some (.string s) := by rw [blk_cell hA3.rdr]; rfl
    have c1 : W3.cell? ⟨R, 1, none⟩ = some (.int .i64 x) := by rw [blk_cell hA3.rdr]; rfl
    have c2 : W3.cell? ⟨R, 2, none⟩ = some (.string sg) := by rw [blk_cell hA3.rdr]; rfl
    have fR : W3.frozen? ⟨R, 1, none⟩ = false := blk_frozen hA3.rdr _
    have o0 : W3.cell? ⟨G, 0, none⟩ = some (.int .i64 0) := by rw [blk_cell hA3.res]; rfl
    have o1 : W3.cell? ⟨G, 1, none⟩ = some (.string ⟨#[]⟩) := by rw [blk_cell hA3.res]; rfl
    have o2 : W3.cell? ⟨G, 2, none⟩ = some (.int .i64 0) := by rw [blk_cell hA3.res]; rfl
    have q0 : W3.frozen? ⟨G, 0, none⟩ = false := blk_frozen hA3.res _
    have q1 : W3.frozen? ⟨G, 1, none⟩ = false := blk_frozen hA3.res _
    have q2 : W3.frozen? ⟨G, 2, none⟩ = false := blk_frozen hA3.res _
    have t0 : W3.cell? ⟨G + 1, 0, none⟩ = some (.int .i64 2) := by rw [blk_cell hA3.tok]; rfl
    have t1 : W3.cell? ⟨G + 1, 1, none⟩ = some (.string T) := by rw [blk_cell hA3.tok]; rfl
    have t2 : W3.cell? ⟨G + 1, 2, none⟩ = some (.int .i64 i) := by rw [blk_cell hA3.tok]; rfl
    have r0 : W3.frozen? ⟨G + 1, 0, none⟩ = false := blk_frozen hA3.tok _
    have r1 : W3.frozen? ⟨G + 1, 1, none⟩ = false := blk_frozen hA3.tok _
    clear hA3
    have hcg := fun (W : World) => lexGood_calls T W hTz
    cases hg : goodB T with
    | false =>
      rw [hg] at hcg
      have HO2 := Lib.hid (HO.out.trans (if_neg (fun h => by rw [hg] at h; cases h.1)))
      clear hg
      refine wp_region_store1 26 29 0 2 4 86 (.pointer (some ⟨G, 0, none⟩)) (.pointer (some ⟨G + 1, 0, none⟩)) (.agg #[.int .i64 2, .string T, .int .i64 (i : Int)]) _ _ (W1 := (((W3.drewN 1).setCell ⟨G, 0, none⟩ (.int .i64 2)).setCell ⟨G, 1, none⟩ (.string T)).setCell ⟨G, 2, none⟩ (.int .i64 (i : Int))) (by kernel_rfl) rfl rfl (by kernel_rfl) ⟨rfl, rfl⟩ ⟨rfl, rfl, by decide, by decide⟩ (by kernel_rfl) (by kernel_rfl) ?_ (by kernel_rfl) rfl rfl (by simp) ?_ ?_ ?_
      · intro j hj hjs o ho
        have hj4 : j = 26 ∨ j = 27 ∨ j = 28 ∨ j = 30 ∨ 31 ≤ j := by omega
        rcases hj4 with rfl | rfl | rfl | rfl | hj4
        · obtain rfl := Option.some.inj ho; exact worldless_pick _ _ _ _ _ rfl
        · obtain rfl := Option.some.inj ho; exact worldless_not _ _ _ _ rfl
        · obtain rfl := Option.some.inj ho; exact worldless_pick _ _ _ _ _ rfl
        · obtain rfl := Option.some.inj ho; exact worldless_assign _ _ _ rfl
        · rw [List.getElem?_eq_none (by simpa using hj4)] at ho; cases ho
      · intro a' h4
        simp only [execOp, h4]
        go_simp
      · intro a' h2 h86
        simp only [execOp, h2, h86]
        go_simp
      simp only [List.set_cons_succ, List.set_cons_zero, dumOf]
      have hX := SameAs.cell W3 1
      repeat (go_big_quiet_step ((go_at_call 111; exact quietX (hcg _))))
      refine wpQuiet_nil ?_
      clear hX
      go_wp2_with fail
      refine bodyPost_ret (v := tokV 2 T i false) (by simp [results, Tryd.results73, go_sem, tokV, *]) rfl ?_
      have ho := (HA3.out.drewN 1).out lR hGle (.int .i64 2) (.string T) (.int .i64 i)
      exact tokPost_no HO2.out ⟨_, _, rfl, ho.1⟩
    | true =>
      rw [hg] at hcg
      by_cases hx2 : x < s.size
      · have hx2I : (x : Int) < (s.size : Int) := by omega
        have hx20 : (0 : Int) ≤ (x : Int) := by omega
        have hdd : decide ((x : Int) < (s.size : Int)) = true := decide_eq_true hx2I
        have hb1 := bt_in s x hx2
        have hce := fun (W : World) => lexLetter_calls (bt s x) W (bt_bd s x).1 (bt_bd s x).2
        cases hle : isLetter (bt s x) with
        | true =>
          rw [hle] at hce
          rw [← hb1] at hce
          have HO2 := Lib.hid (HO.out.trans (if_neg (fun h => by rw [hle] at h; cases h.2)))
          clear hg hle hb1
          refine wp_region_store1 26 29 0 2 4 86 (.pointer (some ⟨G, 0, none⟩)) (.pointer (some ⟨G + 1, 0, none⟩)) (.agg #[.int .i64 2, .string T, .int .i64 (i : Int)]) _ _ (W1 := (((W3.drewN 1).setCell ⟨G, 0, none⟩ (.int .i64 2)).setCell ⟨G, 1, none⟩ (.string T)).setCell ⟨G, 2, none⟩ (.int .i64 (i : Int))) (by kernel_rfl) rfl rfl (by kernel_rfl) ⟨rfl, rfl⟩ ⟨rfl, rfl, by decide, by decide⟩ (by kernel_rfl) (by kernel_rfl) ?_ (by kernel_rfl) rfl rfl (by simp) ?_ ?_ ?_
          · intro j hj hjs o ho
            have hj4 : j = 26 ∨ j = 27 ∨ j = 28 ∨ j = 30 ∨ 31 ≤ j := by omega
            rcases hj4 with rfl | rfl | rfl | rfl | hj4
            · obtain rfl := Option.some.inj ho; exact worldless_pick _ _ _ _ _ rfl
            · obtain rfl := Option.some.inj ho; exact worldless_not _ _ _ _ rfl
            · obtain rfl := Option.some.inj ho; exact worldless_pick _ _ _ _ _ rfl
            · obtain rfl := Option.some.inj ho; exact worldless_assign _ _ _ rfl
            · rw [List.getElem?_eq_none (by simpa using hj4)] at ho; cases ho
          · intro a' h4
            simp only [execOp, h4]
            go_simp
          · intro a' h2 h86
            simp only [execOp, h2, h86]
            go_simp
          simp only [List.set_cons_succ, List.set_cons_zero, dumOf]
          have hX := SameAs.cell W3 1
          repeat (go_big_quiet_step (first | (go_at_call 111; exact quietX (hcg _)) | (go_at_call 108; exact quietX (hce _))))
          refine wpQuiet_nil ?_
          clear hX
          go_wp2_with fail
          refine bodyPost_ret (v := tokV 2 T i false) (by simp [results, Tryd.results73, go_sem, tokV, *]) rfl ?_
          have ho := (HA3.out.drewN 1).out lR hGle (.int .i64 2) (.string T) (.int .i64 i)
          exact tokPost_no HO2.out ⟨_, _, rfl, ho.1⟩
        | false =>
          rw [hle] at hce
          rw [← hb1] at hce
          have HO2 := Lib.hid (HO.out.trans (if_pos ⟨hg, hle⟩))
          clear hg hle hb1
          refine wp_region_store1 26 29 0 2 4 86 (.pointer (some ⟨G, 0, none⟩)) (.pointer (some ⟨G + 1, 0, none⟩)) (.agg #[.int .i64 2, .string T, .int .i64 (i : Int)]) _ _ (W1 := (((W3.drewN 1).setCell ⟨G, 0, none⟩ (.int .i64 2)).setCell ⟨G, 1, none⟩ (.string T)).setCell ⟨G, 2, none⟩ (.int .i64 (i : Int))) (by kernel_rfl) rfl rfl (by kernel_rfl) ⟨rfl, rfl⟩ ⟨rfl, rfl, by decide, by decide⟩ (by kernel_rfl) (by kernel_rfl) ?_ (by kernel_rfl) rfl rfl (by simp) ?_ ?_ ?_
          · intro j hj hjs o ho
            have hj4 : j = 26 ∨ j = 27 ∨ j = 28 ∨ j = 30 ∨ 31 ≤ j := by omega
            rcases hj4 with rfl | rfl | rfl | rfl | hj4
            · obtain rfl := Option.some.inj ho; exact worldless_pick _ _ _ _ _ rfl
            · obtain rfl := Option.some.inj ho; exact worldless_not _ _ _ _ rfl
            · obtain rfl := Option.some.inj ho; exact worldless_pick _ _ _ _ _ rfl
            · obtain rfl := Option.some.inj ho; exact worldless_assign _ _ _ rfl
            · rw [List.getElem?_eq_none (by simpa using hj4)] at ho; cases ho
          · intro a' h4
            simp only [execOp, h4]
            go_simp
          · intro a' h2 h86
            simp only [execOp, h2, h86]
            go_simp
          simp only [List.set_cons_succ, List.set_cons_zero, dumOf]
          have hX := SameAs.cell W3 1
          repeat (go_big_quiet_step (first | (go_at_call 111; exact quietX (hcg _)) | (go_at_call 108; exact quietX (hce _))))
          refine wpQuiet_nil ?_
          clear hX
          go_wp2_with fail
          refine bodyPost_ret (v := tokV 2 T i true) (by simp [results, Tryd.results73, go_sem, tokV, *]) rfl ?_
          have ho := (HA3.out.drewN 1).out lR hGle (.int .i64 2) (.string T) (.int .i64 i)
          exact tokPost_ok HO2.out ⟨rfl, ho.1, ho.2⟩
      · have hdd : decide ((x : Int) < (s.size : Int)) = false := decide_eq_false (by omega)
        have HO2 := Lib.hid (HO.out.trans (if_pos ⟨hg, by rw [bt_out s x hx2]; rfl⟩))
        clear hg
        refine wp_region_store1 26 29 0 2 4 86 (.pointer (some ⟨G, 0, none⟩)) (.pointer (some ⟨G + 1, 0, none⟩)) (.agg #[.int .i64 2, .string T, .int .i64 (i : Int)]) _ _ (W1 := (((W3.drewN 1).setCell ⟨G, 0, none⟩ (.int .i64 2)).setCell ⟨G, 1, none⟩ (.string T)).setCell ⟨G, 2, none⟩ (.int .i64 (i : Int))) (by kernel_rfl) rfl rfl (by kernel_rfl) ⟨rfl, rfl⟩ ⟨rfl, rfl, by decide, by decide⟩ (by kernel_rfl) (by kernel_rfl) ?_ (by kernel_rfl) rfl rfl (by simp) ?_ ?_ ?_
        · intro j hj hjs o ho
          have hj4 : j = 26 ∨ j = 27 ∨ j = 28 ∨ j = 30 ∨ 31 ≤ j := by omega
          rcases hj4 with rfl | rfl | rfl | rfl | hj4
          · obtain rfl := Option.some.inj ho; exact worldless_pick _ _ _ _ _ rfl
          · obtain rfl := Option.some.inj ho; exact worldless_not _ _ _ _ rfl
          · obtain rfl := Option.some.inj ho; exact worldless_pick _ _ _ _ _ rfl
          · obtain rfl := Option.some.inj ho; exact worldless_assign _ _ _ rfl
          · rw [List.getElem?_eq_none (by simpa using hj4)] at ho; cases ho
        · intro a' h4
          simp only [execOp, h4]
          go_simp
        · intro a' h2 h86
          simp only [execOp, h2, h86]
          go_simp
        simp only [List.set_cons_succ, List.set_cons_zero, dumOf]
        have hX := SameAs.cell W3 1
        repeat (go_big_quiet_step ((go_at_call 111; exact quietX (hcg _))))
        refine wpQuiet_nil ?_
        clear hX
        go_wp2_with fail
        refine bodyPost_ret (v := tokV 2 T i true) (by simp [results, Tryd.results73, go_sem, tokV, *]) rfl ?_
        have ho := (HA3.out.drewN 1).out lR hGle (.int .i64 2) (.string T) (.int .i64 i)
        exact tokPost_ok HO2.out ⟨rfl, ho.1, ho.2⟩
  | false =>
    have HN := Lib.hid hn
    clear hn
    by_cases hq : c = 34
    · have hqb : (c == 34) = true := by rw [hq]; rfl
      have HQ := Lib.hid hq
      clear hq
      go_wp2_with fail
      refine (while_calls 112 inQuote lexQuote_calls enters_quote R s sg (i + 1) _ hs (by omega) (HA.out.step lR).rdr).mono ?_
      rintro e w2 ⟨rfl, hg2, hr2⟩
      have hA2 := (HA.out.step lR).run hg2 hr2 lR
      have hxb := spanEnd_bd s inQuote (i + 1) (by omega)
      obtain ⟨x, hx⟩ : ∃ x, x = spanEnd s inQuote (i + 1) := ⟨_, rfl⟩
      rw [← hx] at hA2 hxb ⊢
      have hxs := hxb.2.1
      have HX := Lib.hid hx
      have HA2 := Lib.hid hA2
      clear hx hxb hg2 hr2
      clear c0 c1 c2 fR o0 o1 o2 q0 q1 q2 t0 t1 t2 r0 r1
      have c0 : w2.cell? ⟨R, 0, none⟩ = some (.string s) := by rw [blk_cell hA2.rdr]; rfl
      have c1 : w2.cell? ⟨R, 1, none⟩ = some (.int .i64 x) := by rw [blk_cell hA2.rdr]; rfl
      have c2 : w2.cell? ⟨R, 2, none⟩ = some (.string sg) := by rw [blk_cell hA2.rdr]; rfl
      have fR : w2.frozen? ⟨R, 1, none⟩ = false := blk_frozen hA2.rdr _
      have o0 : w2.cell? ⟨G, 0, none⟩ = some (.int .i64 0) := by rw [blk_cell hA2.res]; rfl
      have o1 : w2.cell? ⟨G, 1, none⟩ = some (.string ⟨#[]⟩) := by rw [blk_cell hA2.res]; rfl
      have o2 : w2.cell? ⟨G, 2, none⟩ = some (.int .i64 0) := by rw [blk_cell hA2.res]; rfl
      have q0 : w2.frozen? ⟨G, 0, none⟩ = false := blk_frozen hA2.res _
      have q1 : w2.frozen? ⟨G, 1, none⟩ = false := blk_frozen hA2.res _
      have q2 : w2.frozen? ⟨G, 2, none⟩ = false := blk_frozen hA2.res _
      have t0 : w2.cell? ⟨G + 1, 0, none⟩ = some (.int .i64 0) := by rw [blk_cell hA2.tok]; rfl
      have t1 : w2.cell? ⟨G + 1, 1, none⟩ = some (.string ⟨#[]⟩) := by rw [blk_cell hA2.tok]; rfl
      have t2 : w2.cell? ⟨G + 1, 2, none⟩ = some (.int .i64 i) := by rw [blk_cell hA2.tok]; rfl
      have r0 : w2.frozen? ⟨G + 1, 0, none⟩ = false := blk_frozen hA2.tok _
      have r1 : w2.frozen? ⟨G + 1, 1, none⟩ = false := blk_frozen hA2.tok _
      clear hA2
      have hTz : (s.extract (i + 1) x).size ≤ 100000 := by rw [piece_size _ _ _ hxs]; omega
      obtain ⟨T, hT⟩ : ∃ T, T = s.extract (i + 1) x := ⟨_, rfl⟩
      rw [← hT] at hTz ⊢
      have hon := HOQ.out (by rw [← HC.out]; exact HQ.out)
      rw [← HX.out, ← hT] at hon
      have HO := Lib.hid hon
      clear hT hon
      go_wp2_with fail
      have hA3 := HA2.out.fill lR hGle 3 T
      obtain ⟨W3, hW3⟩ : ∃ y, y = (w2.setCell ⟨G + 1, 0, none⟩ (.int .i64 3)).setCell ⟨G + 1, 1, none⟩ (.string T) := ⟨_, rfl⟩
      rw [← hW3] at hA3 ⊢
      clear hW3 HA2
      have HA3 := Lib.hid hA3
      clear c0 c1 c2 fR o0 o1 o2 q0 q1 q2 t0 t1 t2 r0 r1
      have c0 : W3.cell? ⟨R, 0, none⟩ = some (.string s) := by rw [blk_cell hA3.rdr]; rfl
      have c1 : W3.cell? ⟨R, 1, none⟩ = some (.int .i64 x) := by rw [blk_cell hA3.rdr]; rfl
      have c2 : W3.cell? ⟨R, 2, none⟩ = some (.string sg) := by rw [blk_cell hA3.rdr]; rfl
      have fR : W3.frozen? ⟨R, 1, none⟩ = false := blk_frozen hA3.rdr _
      have o0 : W3.cell? ⟨G, 0, none⟩ = some (.int .i64 0) := by rw [blk_cell hA3.res]; rfl
      have o1 : W3.cell? ⟨G, 1, none⟩ = some (.string ⟨#[]⟩) := by rw [blk_cell hA3.res]; rfl
      have o2 : W3.cell? ⟨G, 2, none⟩ = some (.int .i64 0) := by rw [blk_cell hA3.res]; rfl
      have q0 : W3.frozen? ⟨G, 0, none⟩ = false := blk_frozen hA3.res _
      have q1 : W3.frozen? ⟨G, 1, none⟩ = false := blk_frozen hA3.res _
      have q2 : W3.frozen? ⟨G, 2, none⟩ = false := blk_frozen hA3.res _
      have t0 : W3.cell? ⟨G + 1, 0, none⟩ = some (.int .i64 3) := by rw [blk_cell hA3.tok]; rfl
      have t1 : W3.cell? ⟨G + 1, 1, none⟩ = some (.string T) := by rw [blk_cell hA3.tok]; rfl
      have t2 : W3.cell? ⟨G + 1, 2, none⟩ = some (.int .i64 i) := by rw [blk_cell hA3.tok]; rfl
      have r0 : W3.frozen? ⟨G + 1, 0, none⟩ = false := blk_frozen hA3.tok _
      have r1 : W3.frozen? ⟨G + 1, 1, none⟩ = false := blk_frozen hA3.tok _
      clear hA3
      by_cases hx2 : x < s.size
      · have hx2I : (x : Int) < (s.size : Int) := by omega
        have hx20 : (0 : Int) ≤ (x : Int) := by omega
        have hdd : ((x : Int) == (s.size : Int)) = false := by rw [beq_eq_false_iff_ne]; omega
        have hb1 := bt_in s x hx2
        by_cases h34 : bt s x = 34
        · have hne : (((s[x]'hx2).toNat : Int) != 34) = false := by rw [hb1, h34]; rfl
          have HH := Lib.hid h34
          clear h34 hb1
          have kc := fun (w : World) => Lib.run_convert_string_bytes (P := Tryd.prog) w 9 22 5 T Tryd.underlying9 Tryd.underlying22 Tryd.underlying5
          have hcu := wireUtf8_calls (W3.drewN 1).heap.size (grownCap (W3.drewN 1) T.size 0 5) T hTz (grownCap_ge _ _ _ _) _ (bytes_at (W3.drewN 1) 5 T)
          (have hX := SameAs.cell W3 1; refine wp_region_same_tail 25 (by kernel_rfl) (by kernel_rfl) ?_; simp only [List.take_succ_cons, List.take_zero, List.drop_succ_cons, List.drop_zero]; (repeat (go_big_quiet_step (fail))); refine wpQuiet_nil ?_; clear hX)
          have hA4 := (HA3.out.drewN 1).below (bytes_below (W3.drewN 1) 5 T)
          go_wp2_with fail
          refine hcu.mono ?_
          rintro e w' ⟨rfl, rfl⟩
          obtain ⟨W4, hW4⟩ : ∃ y, y = Lib.bytesWorld (W3.drewN 1) 5 T := ⟨_, rfl⟩
          rw [← hW4] at hA4 ⊢
          clear hW4 kc hcu
          have HA4 := Lib.hid hA4
          clear c0 c1 c2 fR o0 o1 o2 q0 q1 q2 t0 t1 t2 r0 r1
          have c0 : W4.cell? ⟨R, 0, none⟩ = some (.string s) := by rw [blk_cell hA4.rdr]; rfl
          have c1 : W4.cell? ⟨R, 1, none⟩ = some (.int .i64 x) := by rw [blk_cell hA4.rdr]; rfl
          have c2 : W4.cell? ⟨R, 2, none⟩ = some (.string sg) := by rw [blk_cell hA4.rdr]; rfl
          have fR : W4.frozen? ⟨R, 1, none⟩ = false := blk_frozen hA4.rdr _
          have o0 : W4.cell? ⟨G, 0, none⟩ = some (.int .i64 0) := by rw [blk_cell hA4.res]; rfl
          have o1 : W4.cell? ⟨G, 1, none⟩ = some (.string ⟨#[]⟩) := by rw [blk_cell hA4.res]; rfl
          have o2 : W4.cell? ⟨G, 2, none⟩ = some (.int .i64 0) := by rw [blk_cell hA4.res]; rfl
          have q0 : W4.frozen? ⟨G, 0, none⟩ = false := blk_frozen hA4.res _
          have q1 : W4.frozen? ⟨G, 1, none⟩ = false := blk_frozen hA4.res _
          have q2 : W4.frozen? ⟨G, 2, none⟩ = false := blk_frozen hA4.res _
          have t0 : W4.cell? ⟨G + 1, 0, none⟩ = some (.int .i64 3) := by rw [blk_cell hA4.tok]; rfl
          have t1 : W4.cell? ⟨G + 1, 1, none⟩ = some (.string T) := by rw [blk_cell hA4.tok]; rfl
          have t2 : W4.cell? ⟨G + 1, 2, none⟩ = some (.int .i64 i) := by rw [blk_cell hA4.tok]; rfl
          have r0 : W4.frozen? ⟨G + 1, 0, none⟩ = false := blk_frozen hA4.tok _
          have r1 : W4.frozen? ⟨G + 1, 1, none⟩ = false := blk_frozen hA4.tok _
          clear hA4
          by_cases hu : utf8Bad T < 0
          · have hdu : decide ((0 : Int) ≤ utf8Bad T) = false := decide_eq_false (by omega)
            have HO2 := Lib.hid (HO.out.trans (if_pos ⟨HH.out, hu⟩))
            clear hu
            go_wp2_with fail
            refine bodyPost_ret (v := tokV 3 T i true) (by simp [results, Tryd.results73, go_sem, tokV, *]) rfl ?_
            have ho := (HA4.out.step lR).out lR hGle (.int .i64 3) (.string T) (.int .i64 i)
            exact tokPost_ok HO2.out ⟨rfl, ho.1, ho.2⟩
          · have hdu : decide ((0 : Int) ≤ utf8Bad T) = true := decide_eq_true (by omega)
            have HO2 := Lib.hid (HO.out.trans (if_neg (fun h => hu h.2)))
            clear hu
            go_wp2_with fail
            refine bodyPost_ret (v := tokV 3 T i false) (by simp [results, Tryd.results73, go_sem, tokV, *]) rfl ?_
            have ho := HA4.out.out lR hGle (.int .i64 3) (.string T) (.int .i64 i)
            exact tokPost_no HO2.out ⟨_, _, rfl, ho.1⟩
        · have hne : (((s[x]'hx2).toNat : Int) != 34) = true := by rw [hb1]; simpa [bne] using h34
          have HO2 := Lib.hid (HO.out.trans (if_neg (fun h => h34 h.1)))
          clear h34 hb1
          go_quiet (fail)
          go_wp2_with fail
          refine bodyPost_ret (v := tokV 3 T i false) (by simp [results, Tryd.results73, go_sem, tokV, *]) rfl ?_
          have ho := (HA3.out.drewN nq).out lR hGle (.int .i64 3) (.string T) (.int .i64 i)
          exact tokPost_no HO2.out ⟨_, _, rfl, ho.1⟩
      · have hdd : ((x : Int) == (s.size : Int)) = true := by rw [beq_iff_eq]; omega
        have HO2 := Lib.hid (HO.out.trans (if_neg (fun h => by rw [bt_out s x hx2] at h; exact absurd h.1 (by decide))))
        go_quiet (fail)
        go_wp2_with fail
        refine bodyPost_ret (v := tokV 3 T i false) (by simp [results, Tryd.results73, go_sem, tokV, *]) rfl ?_
        have ho := (HA3.out.drewN nq).out lR hGle (.int .i64 3) (.string T) (.int .i64 i)
        exact tokPost_no HO2.out ⟨_, _, rfl, ho.1⟩
    · have hqb : (c == 34) = false := by rw [beq_eq_false_iff_ne]; exact hq
      have HQ := Lib.hid hq
      clear hq
      go_wp2_with fail
      refine ((Tryd.strings_IndexByte sg c wc).mono (fun _ _ h => (⟨h.1, h.2.symm⟩ : _ ∧ wc = _))).mono ?_
      rintro e w' ⟨rfl, rfl⟩
      have hib := hasSign_index sg c hcb0 hcb1
      have hos := HOS.out HN.out (by rw [← HC.out]; exact HQ.out)
      rw [← HC.out] at hos
      cases hsg : hasSign sg c with
      | true =>
        rw [hsg] at hib hos
        have hlow := hasSign_low sg c HSG.out hsg
        have hE := enc_one s i hi c HC.out hlow
        obtain ⟨E, hE2⟩ : ∃ E, E = s.extract i (i + 1) := ⟨_, rfl⟩
        rw [← hE2] at hE
        rw [if_pos rfl, ← hE2] at hos
        have HO := Lib.hid hos
        have HSG2 := Lib.hid hsg
        clear hsg hE2 hos
        go_wp2_with fail
        refine bodyPost_ret (v := tokV 4 E i true) (by simp [results, Tryd.results73, go_sem, tokV, *]) rfl ?_
        have ho := (((HA.out.step lR).fill lR hGle 4 E).out lR hGle (.int .i64 4) (.string E) (.int .i64 i))
        exact tokPost_ok HO.out ⟨rfl, ho.1, ho.2⟩
      | false =>
        rw [hsg] at hib hos
        rw [if_neg (by simp)] at hos
        have HO := Lib.hid hos
        clear hsg hos
        go_wp2_with fail
        refine bodyPost_ret (v := tokV 0 ⟨#[]⟩ i false) (by simp [results, Tryd.results73, go_sem, tokV, *]) rfl ?_
        have ho := HA.out.out lR hGle (.int .i64 0) (.string ⟨#[]⟩) (.int .i64 i)
        exact tokPost_no HO.out ⟨_, _, rfl, ho.1⟩

end Go.Proofs.YtejpjclbeogajaaDoor
