/-
  transomhand05.Made: the schema that a plan makes, where there are as many structs and enums as may be.
-/
import Derived.Test.YtejpjclbeogajaaDoorMadeT
import Derived.Deep.DeepCutAuto
import Derived.Deep.LoopGhost
namespace Go.Proofs.YtejpjclbeogajaaDoor
open Go.RowKit
set_option linter.unusedVariables false
set_option linter.unusedSimpArgs false

set_option maxHeartbeats 4000000 in
set_option maxRecDepth 100000 in
theorem made_good (v : Value) (p : PlanD) (w : World) (hp : PlanAt w v p) (h1 : 1 ≤ p.structs.length) (h2 : p.structs.length ≤ 16) (h3 : p.enums.length ≤ 8) :
    Calls Tryd.prog 8 #[v] w (MadePost w p) := by
  obtain ⟨⟨A, ce, B, cs, rfl, hE, hS⟩, hroot, hen⟩ := hp
  obtain ⟨is, his, hzs0, hzs1, hzs2⟩ := info_parts info_str
  obtain ⟨ic, hic, hzc0, hzc1, hzc2⟩ := info_parts info_choice
  have hd1 : decide ((p.structs.length : Int) < 1) = false := decide_eq_false (by omega)
  have hd2 : decide (16 < (p.structs.length : Int)) = false := decide_eq_false (by omega)
  have hd3 : decide (8 < (p.enums.length : Int)) = false := decide_eq_false (by omega)
  have hn0 : (0 : Int) < (p.structs.length : Int) := by omega
  have hn16 : (p.structs.length : Int) ≤ 16 := by omega
  have hr0 := hroot.1
  have hr1 := hroot.2
  have hnz : ((p.structs.length : Int) == 0) = false := by rw [beq_eq_false_iff_ne]; omega
  have HE := Lib.hid hE
  have HS := Lib.hid hS
  clear hE hS
  go_enter Tryd.func8, Tryd.ntmps8
  go_wp2
  clear hnz hd1 hd2 hd3
  have hI0 : EInv w (((w.alloc (Obj.cells #[.slice A p.enums.length ce, .slice B p.structs.length cs, .int .u8 p.root, .bool p.tree] 25)).alloc (Obj.cells #[Value.slice none 0 0, Value.slice none 0 0, Value.int IntKind.i64 0] 32)).alloc (Obj.cells #[Value.slice none 0 0, Value.slice none 0 0, Value.int IntKind.i64 (p.root % (p.structs.length : Int))] 32))
      #[.slice A p.enums.length ce, .slice B p.structs.length cs, .int .u8 p.root, .bool p.tree] (p.root % (p.structs.length : Int)) (.slice none 0 0) p.enums 0 (w.heap.size + 1 + 1) (fun _ => undef) := by
    refine ⟨by (repeat' (first | (with_reducible exact Below.refl _ _) | (with_reducible assumption) | (with_reducible refine Below.alloc ?_ ?_ _) | (with_reducible refine Below.drew ?_) | (with_reducible refine Below.setCell ?_ ?_ _) | (with_reducible refine Below.trans ?_ (Below.mono (by assumption) ?_)) | go_size)), blk_alloc (blk_alloc (blk_new _ _) _) _, blk_alloc ?_ _, ?_, World.ownsRow_nil _ _ _ _, fun j hj => absurd hj (by omega), by omega⟩
    · have := blk_new (w.alloc (Obj.cells #[.slice A p.enums.length ce, .slice B p.structs.length cs, .int .u8 p.root, .bool p.tree] 25)) (Obj.cells #[Value.slice none 0 0, Value.slice none 0 0, Value.int IntKind.i64 0] 32)
      simpa using this
    · have := blk_new ((w.alloc (Obj.cells #[.slice A p.enums.length ce, .slice B p.structs.length cs, .int .u8 p.root, .bool p.tree] 25)).alloc (Obj.cells #[Value.slice none 0 0, Value.slice none 0 0, Value.int IntKind.i64 0] 32)) (Obj.cells #[Value.slice none 0 0, Value.slice none 0 0, Value.int IntKind.i64 (p.root % (p.structs.length : Int))] 32)
      simpa using this
  obtain ⟨O, hO⟩ : ∃ O, O = w.heap.size + 1 + 1 := ⟨_, rfl⟩
  rw [← hO] at hI0 ⊢
  clear hO
  go_loopw [5] (fun v5 wr => ∃ (i : Nat) (vE : Value) (vf : Nat → Value), i ≤ p.enums.length ∧ v5 = .int .i64 i ∧ EInv w wr #[.slice A p.enums.length ce, .slice B p.structs.length cs, .int .u8 p.root, .bool p.tree] (p.root % (p.structs.length : Int)) vE p.enums i O vf) (fun v5 _ => p.enums.length - (intOf v5).toNat)
  case atStart => exact ⟨0, _, _, by omega, rfl, hI0⟩
  case round =>
    obtain ⟨i, vE, vf, hi, rfl, hI⟩ := hrel
    have cP0 : wr.cell? ⟨w.heap.size, 0, none⟩ = some (.slice A p.enums.length ce) := by rw [blk_cell hI.p]; rfl
    by_cases hin : i < p.enums.length
    ·
      as_aux_lemma =>
        obtain ⟨ba, oa, rfl, hba, hca⟩ := HE.out (by omega)
        have hn := hen (iget p.enums i) (by unfold iget; rw [getElem!_pos p.enums i hin]; exact List.getElem_mem hin)
        have ce' : wr.cell? ⟨ba, oa + i, none⟩ = some (.int .u8 (iget p.enums i)) := by rw [hI.below.cell (p := ⟨ba, oa + i, none⟩) hba]; exact hca i hin
        obtain ⟨n, hne⟩ : ∃ n, n = iget p.enums i := ⟨_, rfl⟩
        rw [← hne] at hn ce'
        have hn0' := hn.1
        have hn1' := hn.2
        have HN := Lib.hid hne
        have Hca := Lib.hid hca
        have hiI : (i : Int) < (p.enums.length : Int) := by omega
        have hi8 : (i : Int) < 8 := by omega
        have lP := blk_lt hI.p
        have lba : ba < wr.heap.size := by have := hI.below.size; omega
        clear hne hn hca
        obtain ⟨bs, hbs⟩ : ∃ x, x = bytesStr [97 + (i : Int)] := ⟨_, rfl⟩
        have hcv := conv_byte1 wr (97 + (i : Int)) 5 (wr.alloc (Obj.cells #[Value.int IntKind.u8 (97 + (i : Int))] 5)) (blk_new wr _)
        rw [← hbs] at hcv
        have hbz : bs.size ≤ 1 := by rw [hbs]; exact Nat.le_refl _
        have HBS := Lib.hid hbs
        clear hbs
        go_wp2
        obtain ⟨nm, hnm⟩ : ∃ x, x = (⟨#[69]⟩ : ByteArray) ++ bs := ⟨_, rfl⟩
        rw [← hnm]
        have HNM := Lib.hid hnm
        clear hnm hcv
        obtain ⟨wo, hwo⟩ : ∃ wo : World, wo = wr := ⟨_, rfl⟩
        subst hwo
        obtain ⟨C, hC⟩ : ∃ C, C = wo.heap.size + 1 := ⟨_, rfl⟩
        have hN0 : NInv wo ((wo.alloc (Obj.cells #[Value.int IntKind.u8 (97 + (i : Int))] 5)).alloc (Obj.cells #[Value.string nm, Value.slice none 0 0] 85)) nm (.slice none 0 0) 0 C := by
          refine ⟨by (repeat' (first | (with_reducible exact Below.refl _ _) | (with_reducible assumption) | (with_reducible refine Below.alloc ?_ ?_ _) | (with_reducible refine Below.drew ?_) | (with_reducible refine Below.setCell ?_ ?_ _) | (with_reducible refine Below.trans ?_ (Below.mono (by assumption) ?_)) | go_size)), ?_, World.ownsRow_nil _ _ _ _, by omega⟩
          have := blk_new (wo.alloc (Obj.cells #[Value.int IntKind.u8 (97 + (i : Int))] 5)) (Obj.cells #[Value.string nm, Value.slice none 0 0] 85)
          rw [hC]; simpa using this
        have hCs : wo.heap.size < C := by omega
        rw [← hC]
        clear hC
        have hm0 : (0 : Int) ≤ n % 32 := by omega
        have hm1 : n % 32 < 32 := by omega
        go_loopw [7] (fun v7 wi => ∃ (k : Nat) (vn : Value), k ≤ (n % 32).toNat + 1 ∧ v7 = .int .i64 k ∧ NInv wo wi nm vn k C) (fun v7 _ => (n % 32).toNat + 1 - (intOf v7).toNat)
        case atStart => exact ⟨0, _, by omega, rfl, hN0⟩
        case round =>
          obtain ⟨k, vn, hk, rfl, hJ⟩ := hrel
          have hk33 : (k : Int) ≤ 32 := by omega
          have cP0 : wr.cell? ⟨w.heap.size, 0, none⟩ = some (.slice (some ⟨ba, oa, none⟩) p.enums.length ce) := by rw [hJ.below.cell (p := ⟨w.heap.size, 0, none⟩) lP]; exact cP0
          have ce1 : wr.cell? ⟨ba, oa + i, none⟩ = some (.int .u8 n) := by rw [hJ.below.cell (p := ⟨ba, oa + i, none⟩) lba]; exact ce'
          have cC1 : wr.cell? ⟨C, 1, none⟩ = some vn := by rw [blk_cell hJ.c]; rfl
          have cC0 : wr.cell? ⟨C, 0, none⟩ = some (.string nm) := by rw [blk_cell hJ.c]; rfl
          have fC1 : wr.frozen? ⟨C, 1, none⟩ = false := blk_frozen hJ.c _
          have lC := blk_lt hJ.c
          by_cases hkn : (k : Int) ≤ n % 32
          · obtain ⟨bt, hbt⟩ : ∃ x, x = bytesStr [97 + (k : Int) % 26, 97 + (k : Int) / 26] := ⟨_, rfl⟩
            have hcv := conv_byte2 wr (97 + (k : Int) % 26) (97 + (k : Int) / 26) 5 (wr.alloc (Obj.cells #[Value.int IntKind.u8 (97 + (k : Int) % 26), Value.int IntKind.u8 (97 + (k : Int) / 26)] 5)) (blk_new wr _)
            rw [← hbt] at hcv
            have hbz : bt.size ≤ 2 := by rw [hbt]; exact Nat.le_refl _
            have HBT := Lib.hid hbt
            have hown := hJ.own
            clear hbt
            go_wp2_with (at_builtin; refine wpList_append_lies _ rfl _ _ 83 rfl (C + 1) 9 is (.string ⟨#[]⟩) 1 16 Tryd.underlying83 his hzs0 hzs1 hzs2 rfl (by decide) _ _ _ rfl ((hown.alloc _).alloc _) ⟨wr.heap.size + 1, 0, none⟩ 1 1 [.string (⟨#[118]⟩ ++ bt)] rfl rfl (news_one _ _ _ _) (by simp [Value.oneCell']) (by decide) (by unfold maxLen; omega) (by omega) (by simp; omega) _ rfl ?_)
            intro g cap w1 hown1 hgr1 hat hlt
            have hnC : some C ≠ vn.ownBlock := fun e => by have := (hJ.own.lt C e.symm).1; omega
            have hC1 : w1.heap[C]? = some (.cells #[.string nm, vn] 85 (0, 0)) := (hgr1.block C (by simp; omega) hnC).trans (blk_alloc (blk_alloc hJ.c _) _)
            have dC1 : w1.cell? ⟨C, 1, none⟩ = some vn := by rw [blk_cell hC1]; rfl
            have eC1 : w1.frozen? ⟨C, 1, none⟩ = false := blk_frozen hC1 _
            have hz1 : wr.heap.size + 1 + 1 ≤ w1.heap.size := by have := hgr1.size; simpa using this
            clear hcv hown cP0 ce1 cC1 cC0 fC1
            go_wp2
            go_roundw
            case rel =>
              refine ⟨k + 1, .slice (some ⟨g, 0, none⟩) (k + 1) cap, by omega, by go_num, ?_, ?_, ?_, hJ.d⟩
              · have hsz := hJ.below.size
                have hd := hJ.d
                refine Below.setCell (Below.grown ((hJ.below.alloc (by omega) _).alloc (by simp; omega) _) hgr1 (by simp; omega) (fun k e => ?_)) (by simp; omega) _
                have := (hJ.own.lt k e).1
                omega
              · rw [blk_set hC1]; rfl
              · refine ownsRow_setCell_below ?_ (by simp) _
                rw [List.range_succ, List.map_append]
                simp only [List.map_cons, List.map_nil, valName]
                rw [← HBT.out]
                exact hown1
            case measure => simp [intOf]; omega
          · obtain rfl : k = (n % 32).toNat + 1 := by omega
            have hkb : decide ((((n % 32).toNat + 1 : Nat) : Int) ≤ n % 32) = false := decide_eq_false hkn
            obtain ⟨gn, cn, rfl, hgn1, hgn2⟩ := hJ.own.form (by omega)
            have lO := blk_lt hI.o
            have hbs := hJ.below.size
            have hO1 := blk_below hI.o hJ.below lO
            have cO1 : wr.cell? ⟨O, 1, none⟩ = some vE := by rw [blk_cell hO1]; rfl
            have hd := hJ.d
            have howE : wr.ownsRow (O + 1) 85 2 vE i ((List.range i).flatMap fun j => [.string (nameOf 69 j), vf j]) := ownsRow_at hI.own (fun g hg => hJ.below.block g (hI.own.lt g hg).2)
            have hrow := strs_of_owned valName hJ.own
            have HCN := Lib.hid (own_cap hJ.own)
            go_wp2_with (at_builtin; refine wpList_append_lies _ rfl _ _ 30 rfl (O + 1) 85 ic (.agg #[.string ⟨#[]⟩, .slice none 0 0]) 2 40 Tryd.underlying30 hic hzc0 hzc1 hzc2 rfl (by decide) _ _ _ rfl (howE.alloc _) ⟨wr.heap.size, 0, none⟩ 1 1 [.string nm, .slice (some ⟨gn, 0, none⟩) ((n % 32).toNat + 1) cn] rfl rfl (cell_two_new _ _ _ _) (by simp [Value.oneCell']) (by decide) (by unfold maxLen; omega) (by omega) (by simp; omega) _ rfl ?_)
            intro g2 cap2 w2 hown2 hgr2 hat2 hlt2
            have hnO : some O ≠ vE.ownBlock := fun e => by have := (hI.own.lt O e.symm).1; omega
            have hO2 := (hgr2.block O (by simp; omega) hnO).trans (blk_alloc hO1 _)
            have dO1 : w2.cell? ⟨O, 1, none⟩ = some vE := by rw [blk_cell hO2]; rfl
            have eO1 : w2.frozen? ⟨O, 1, none⟩ = false := blk_frozen hO2 _
            have hz2 : wr.heap.size + 1 ≤ w2.heap.size := by have := hgr2.size; simpa using this
            have hold : ∀ b, b < wo.heap.size → some b ≠ vE.ownBlock → w2.heap[b]? = wo.heap[b]? := fun b hb hn => (hgr2.block b (by simp; omega) hn).trans ((Below.heap_alloc _ _ _ (by omega)).trans (hJ.below.block b hb))
            clear howE cP0 ce1 cC1 cC0 fC1 cO1
            have Hold := Lib.hid hold
            clear hold
            go_wp2
            go_roundw
            case rel =>
              have hrowlt : ∀ g, vE.ownBlock = some g → O + 1 ≤ g ∧ g < wo.heap.size := hI.own.lt
              have hdd := hI.d
              refine ⟨i + 1, .slice (some ⟨g2, 0, none⟩) (i + 1) cap2, fun j => if j = i then .slice (some ⟨gn, 0, none⟩) ((n % 32).toNat + 1) cn else vf j, by omega, by go_num, ?_⟩
              have hsw := hI.below.size
              refine ⟨?_, ?_, ?_, ?_, ?_, ?_, hdd⟩
              · refine Below.setCell (Below.grown ((hI.below.trans (hJ.below.mono hsw)).alloc (by omega) _) hgr2 (by simp; omega) (fun k e => ?_)) (by simp; omega) _
                have := (hrowlt k e).1
                omega
              · exact blk_set_ne ((Hold.out _ (blk_lt hI.p) (fun e => by have := (hrowlt _ e.symm).1; omega)).trans hI.p) _ (by simp; omega) _
              · exact blk_set_ne ((Hold.out _ (blk_lt hI.r) (fun e => by have := (hrowlt _ e.symm).1; omega)).trans hI.r) _ (by simp; omega) _
              · rw [blk_set hO2]; rfl
              · refine ownsRow_setCell_below ?_ (by simp) _
                rw [flat_succ]
                have e1 : ((List.range i).flatMap fun j => [Value.string (nameOf 69 j), if j = i then .slice (some ⟨gn, 0, none⟩) ((n % 32).toNat + 1) cn else vf j]) = (List.range i).flatMap fun j => [Value.string (nameOf 69 j), vf j] := by
                  rw [List.flatMap_def, List.flatMap_def]
                  congr 1
                  apply List.map_congr_left
                  intro j hj
                  have : j ≠ i := by have := List.mem_range.1 hj; omega
                  simp [this]
                rw [e1]
                have e2 : nameOf 69 i = nm := by rw [HNM.out, HBS.out]; rfl
                simp only [if_true, e2]
                exact hown2
              · intro j hj
                by_cases hji : j = i
                · subst hji
                  simp only [if_true]
                  have e3 : madeNames (iget p.enums j) = (List.range ((n % 32).toNat + 1)).map valName := by rw [← HN.out]; rfl
                  rw [e3]
                  refine ⟨gn, cn, ⟨by simp, by have := HCN.out; simpa using this⟩, ?_, by omega, ?_, ?_⟩
                  · simp [World.setCell]; omega
                  · intro e
                    rcases hat2 with h | h
                    · have := (hrowlt g2 h).2; simp [Value.ownBlock] at e; omega
                    · simp [Value.ownBlock] at e; omega
                  · refine strs_local _ wr _ gn ?_ hrow
                    rw [Below.heap_setCell _ _ _ _ (by simp; omega)]
                    exact (hgr2.block gn (by simp; omega) (fun e => by have := (hrowlt gn e.symm).2; omega)).trans (Below.heap_alloc _ _ _ hgn2)
                · simp only [if_neg hji]
                  refine (hI.held j (by omega)).step (strs_local _) (fun b hb hOb hne => ?_) (by simp [World.setCell]; omega) (fun b hb hne e => ?_)
                  · rw [Below.heap_setCell _ _ _ _ (by simp; omega)]
                    exact Hold.out b hb hne
                  · simp [Value.ownBlock] at e
                    rcases hat2 with h | h
                    · exact hne (by rw [h, e])
                    · omega
            case measure => simp [intOf]; omega
    · obtain rfl : i = p.enums.length := by omega
      clear HE
      go_wp2
      obtain ⟨w0, hw0⟩ : ∃ w0 : World, w0 = wr := ⟨_, rfl⟩
      subst hw0
      have lO := blk_lt hI.o
      have lP := blk_lt hI.p
      have hd := hI.d
      have hS0 : SInv w w0 w0 p (.slice none 0 0) vE 0 O (fun _ => undef) := ⟨hI.below, rfl, rfl, rfl, fun _ _ _ => rfl, Nat.le_refl _, hI.o, World.ownsRow_nil _ _ _ _, fun j hj => absurd hj (by omega)⟩
      clear cP0
      go_loopw [8] (fun v8 wr => ∃ (i : Nat) (vS : Value) (vf : Nat → Value), i ≤ p.structs.length ∧ v8 = .int .i64 i ∧ SInv w w0 wr p vS vE i O vf ∧ (∀ j, j < i → 1 ≤ (psget p.structs j).length ∧ (psget p.structs j).length ≤ 16)) (fun v8 _ => p.structs.length - (intOf v8).toNat)
      case atStart => exact ⟨0, _, _, by omega, rfl, hS0, fun j hj => absurd hj (by omega)⟩
      case round =>
        obtain ⟨i, vS, vf, hi, rfl, hJ, hgood⟩ := hrel
        have hP := (hJ.old _ lP (by omega)).trans hI.p
        have hR := (hJ.old _ (blk_lt hI.r) (by omega)).trans hI.r
        have cP1 : wr.cell? ⟨w.heap.size, 1, none⟩ = some (.slice B p.structs.length cs) := by rw [blk_cell hP]; rfl
        have cP3 : wr.cell? ⟨w.heap.size, 3, none⟩ = some (.bool p.tree) := by rw [blk_cell hP]; rfl
        have r0 : wr.cell? ⟨w.heap.size + 1, 0, none⟩ = some (.slice none 0 0) := by rw [blk_cell hR]; rfl
        have r1 : wr.cell? ⟨w.heap.size + 1, 1, none⟩ = some (.slice none 0 0) := by rw [blk_cell hR]; rfl
        have r2 : wr.cell? ⟨w.heap.size + 1, 2, none⟩ = some (.int .i64 0) := by rw [blk_cell hR]; rfl
        have fr0 : ∀ j, wr.frozen? ⟨w.heap.size + 1, j, none⟩ = false := fun j => blk_frozen hR j
        rcases Nat.eq_or_lt_of_le hi with hin | hin
        · obtain rfl : i = p.structs.length := hin
          obtain ⟨aS, cS, rfl, hSc⟩ := own_pairs _ _ hJ.own
          obtain ⟨aE, cE, rfl, hEc⟩ := own_pairs _ _ hI.own
          have hO1 := hJ.o
          have cO0 : wr.cell? ⟨O, 0, none⟩ = some (.slice aS p.structs.length cS) := by rw [blk_cell hO1]; rfl
          have cO1 : wr.cell? ⟨O, 1, none⟩ = some (.slice aE p.enums.length cE) := by rw [blk_cell hO1]; rfl
          have cO2 : wr.cell? ⟨O, 2, none⟩ = some (.int .i64 (p.root % (p.structs.length : Int))) := by rw [blk_cell hO1]; rfl
          have hok : planOk p := ⟨h1, h2, h3, fun l hl => by
            obtain ⟨j, hj, e⟩ := List.mem_iff_getElem.1 hl
            have := hgood j hj
            have e2 : psget p.structs j = l := by unfold psget; rw [getElem!_pos p.structs j hj]; exact e
            rw [e2] at this; exact this⟩
          clear hSc hEc hP hR cP3 hgood hS0 hI0 HS
          go_wp2
          refine bodyPost_ret (v := .tuple #[.agg #[.slice aS p.structs.length cS, .slice aE p.enums.length cE, .int .i64 (p.root % (p.structs.length : Int))], .bool true]) (by simp [results, Tryd.results8, go_sem, r0, r1, r2, fr0]) rfl ⟨?_, .inr ⟨hok, _, rfl, made_schema hI hJ lO (by simp [World.setCell]) (fun b hb => ?_)⟩⟩
          · exact ((hJ.below.setCell (by simp) _).setCell (by simp) _).setCell (by simp) _
          · rw [Below.heap_setCell _ _ _ _ (by simpa using hb), Below.heap_setCell _ _ _ _ (by simpa using hb), Below.heap_setCell _ _ _ _ (by simpa using hb)]
        · obtain ⟨bs, os, rfl, hbs, hcs⟩ := HS.out (by omega)
          obtain ⟨u, hu, A', c', rfl, hfok, hfs⟩ := hcs i hin
          have hu' : wr.cell? ⟨bs, os + i, none⟩ = some (.slice A' (psget p.structs i).length c') := by rw [hJ.below.cell (p := ⟨bs, os + i, none⟩) hbs]; exact hu
          have hmem := psget_mem p.structs i hin
          obtain ⟨l, hl⟩ : ∃ l, l = psget p.structs i := ⟨_, rfl⟩
          rw [← hl] at hu' hfok hfs hmem
          have HL := Lib.hid hl
          have HFS := Lib.hid hfs
          have HCS := Lib.hid hcs
          have hiI : (i : Int) < (p.structs.length : Int) := by omega
          have hi16 : (i : Int) < 16 := by omega
          have lbs : bs < wr.heap.size := by have := hJ.below.size; omega
          clear hl hfs hcs hu
          by_cases hl1 : l.length < 1
          ·
            as_aux_lemma =>
              have hb1 : decide ((l.length : Int) < 1) = true := decide_eq_true (by omega)
              go_wp2
              refine bodyPost_ret (v := .tuple #[.agg #[.slice none 0 0, .slice none 0 0, .int .i64 0], .bool false]) (by simp [results, Tryd.results8, go_sem, r0, r1, r2, fr0]) rfl ⟨?_, .inl ⟨fun h => by have := (h.2.2.2 l hmem).1; omega, rfl⟩⟩
              exact ((hJ.below.setCell (by simp) _).setCell (by simp) _).setCell (by simp) _
          have hb1 : decide ((l.length : Int) < 1) = false := decide_eq_false (by omega)
          by_cases hl2 : 16 < l.length
          ·
            as_aux_lemma =>
              have hb2 : decide (16 < (l.length : Int)) = true := decide_eq_true (by omega)
              go_wp2
              refine bodyPost_ret (v := .tuple #[.agg #[.slice none 0 0, .slice none 0 0, .int .i64 0], .bool false]) (by simp [results, Tryd.results8, go_sem, r0, r1, r2, fr0]) rfl ⟨?_, .inl ⟨fun h => by have := (h.2.2.2 l hmem).2; omega, rfl⟩⟩
              exact ((hJ.below.setCell (by simp) _).setCell (by simp) _).setCell (by simp) _
          have hb2 : decide (16 < (l.length : Int)) = false := decide_eq_false (by omega)
          obtain ⟨bx, hbx⟩ : ∃ x, x = bytesStr [97 + (i : Int)] := ⟨_, rfl⟩
          have hcv := conv_byte1 wr (97 + (i : Int)) 5 (wr.alloc (Obj.cells #[Value.int IntKind.u8 (97 + (i : Int))] 5)) (blk_new wr _)
          rw [← hbx] at hcv
          have hbz : bx.size ≤ 1 := by rw [hbx]; exact Nat.le_refl _
          have HBX := Lib.hid hbx
          clear hbx r0 r1 r2 fr0
          go_wp2
          clear hb1 hb2
          obtain ⟨nm, hnm⟩ : ∃ x, x = (⟨#[83]⟩ : ByteArray) ++ bx := ⟨_, rfl⟩
          rw [← hnm]
          have HNM := Lib.hid hnm
          clear hnm hcv
          obtain ⟨wo, hwo⟩ : ∃ wo : World, wo = wr := ⟨_, rfl⟩
          subst hwo
          obtain ⟨RB, hRB⟩ : ∃ C, C = wo.heap.size + 1 := ⟨_, rfl⟩
          have hF0 : FInv wo ((wo.alloc (Obj.cells #[Value.int IntKind.u8 (97 + (i : Int))] 5)).alloc (Obj.cells #[Value.string nm, Value.slice none 0 0] 82)) p i l nm (.slice none 0 0) 0 RB := by
            refine ⟨by (repeat' (first | (with_reducible exact Below.refl _ _) | (with_reducible assumption) | (with_reducible refine Below.alloc ?_ ?_ _) | (with_reducible refine Below.drew ?_) | (with_reducible refine Below.setCell ?_ ?_ _) | (with_reducible refine Below.trans ?_ (Below.mono (by assumption) ?_)) | go_size)), ?_, World.ownsRow_nil _ _ _ _, by omega⟩
            have := blk_new (wo.alloc (Obj.cells #[Value.int IntKind.u8 (97 + (i : Int))] 5)) (Obj.cells #[Value.string nm, Value.slice none 0 0] 82)
            rw [hRB]; simpa using this
          have hRs : wo.heap.size < RB := by omega
          rw [← hRB]
          clear hRB
          have lPo : w.heap.size < wo.heap.size := by have := hJ.sz; omega
          have lOo : O < wo.heap.size := by have := hJ.sz; omega
          obtain ⟨aE, cE, rfl, hEcell⟩ := own_pairs _ _ hI.own
          have cO1o : wo.cell? ⟨O, 1, none⟩ = some (.slice aE p.enums.length cE) := by rw [blk_cell hJ.o]; rfl
          go_loopw [11] (fun v11 wi => ∃ (k : Nat) (vF : Value), k ≤ l.length ∧ v11 = .int .i64 k ∧ FInv wo wi p i l nm vF k RB) (fun v11 _ => l.length - (intOf v11).toNat)
          case atStart => exact ⟨0, _, by omega, rfl, hF0⟩
          case round =>
            obtain ⟨k, vF, hk, rfl, hF⟩ := hrel
            by_cases hkn : k < l.length
            ·
              obtain ⟨bl, ol, rfl, hbl, hpf⟩ := HFS.out (by omega)
              have hbw := hJ.below.trans (hF.below.mono hJ.below.size)
              obtain ⟨f0, f1, f2, f3, f4⟩ := hpf k hkn
              have g0 : wr.cell? ⟨bl, ol + k * 5, none⟩ = some (.int .u8 (pfget l k).kind) := by rw [hbw.cell (p := ⟨bl, ol + k * 5, none⟩) hbl]; exact f0
              have g1 : wr.cell? ⟨bl, ol + k * 5 + 1, none⟩ = some (.int .u8 (pfget l k).lists) := by rw [hbw.cell (p := ⟨bl, ol + k * 5 + 1, none⟩) hbl]; exact f1
              have g2 : wr.cell? ⟨bl, ol + k * 5 + 2, none⟩ = some (.int .u8 (pfget l k).ref) := by rw [hbw.cell (p := ⟨bl, ol + k * 5 + 2, none⟩) hbl]; exact f2
              have g3 : wr.cell? ⟨bl, ol + k * 5 + 3, none⟩ = some (.int .u8 (pfget l k).name) := by rw [hbw.cell (p := ⟨bl, ol + k * 5 + 3, none⟩) hbl]; exact f3
              have g4 : wr.cell? ⟨bl, ol + k * 5 + 4, none⟩ = some (.int .u64 (pfget l k).df) := by rw [hbw.cell (p := ⟨bl, ol + k * 5 + 4, none⟩) hbl]; exact f4
              obtain ⟨⟨q0, q1⟩, ⟨l0, l1⟩, ⟨t0, t1⟩, ⟨n0, n1⟩, d0, d1⟩ := hfok _ (pfget_mem l k hkn)
              obtain ⟨pf, hpfe⟩ : ∃ x, x = pfget l k := ⟨_, rfl⟩
              rw [← hpfe] at g0 g1 g2 g3 g4 q0 q1 l0 l1 t0 t1 n0 n1 d0 d1
              have HPF := Lib.hid hpfe
              have hkI : (k : Int) < (l.length : Int) := by omega
              have lbl : bl < wr.heap.size := by have := hbw.size; omega
              clear hpfe f0 f1 f2 f3 f4 hpf
              have lblo : bl < wo.heap.size := by have := hJ.below.size; omega
              have go2 : wo.cell? ⟨bl, ol + k * 5 + 2, none⟩ = some (.int .u8 pf.ref) := by rw [← hF.below.cell (p := ⟨bl, ol + k * 5 + 2, none⟩) lblo]; exact g2
              have go3 : wo.cell? ⟨bl, ol + k * 5 + 3, none⟩ = some (.int .u8 pf.name) := by rw [← hF.below.cell (p := ⟨bl, ol + k * 5 + 3, none⟩) lblo]; exact g3
              have go4 : wo.cell? ⟨bl, ol + k * 5 + 4, none⟩ = some (.int .u64 pf.df) := by rw [← hF.below.cell (p := ⟨bl, ol + k * 5 + 4, none⟩) lblo]; exact g4
              have cP1o := cP1
              have cP3o := cP3
              clear cP1 cP3
              have e1 : Int.tmod pf.kind 13 = pf.kind % 13 := Int.tmod_eq_emod_of_nonneg q0
              have e2 : Int.tmod pf.lists 4 = pf.lists % 4 := Int.tmod_eq_emod_of_nonneg l0
              have e3 : IntKind.u8.wrap (pf.kind % 13) = pf.kind % 13 := IntWalk.u8_in _ (by omega)
              have e4 : IntKind.u8.wrap (pf.kind % 13 + 1) = pf.kind % 13 + 1 := IntWalk.u8_in _ (by omega)
              have e5 : IntKind.u8.wrap (pf.lists % 4) = pf.lists % 4 := IntWalk.u8_in _ (by omega)
              have e6 : IntKind.i64.wrap (pf.lists % 4) = pf.lists % 4 := IntWalk.i64_in _ (by omega)
              go_wp2_with fail
              go_region_held3 (fun w' => w'.cell? ⟨bl, ol + k * 5, none⟩ = some (.int .u8 pf.kind) ∧ w'.cell? ⟨bl, ol + k * 5 + 1, none⟩ = some (.int .u8 pf.lists)) (go_keep) (fail)
              have hT := TW.start hF (pf.kind % 13 + 1) 0 (pf.lists % 4)
              obtain ⟨TB, hTB⟩ : ∃ x, x = wr.heap.size := ⟨_, rfl⟩
              rw [← hTB] at hT ⊢
              obtain ⟨W1, hW1⟩ : ∃ x, x = (wr.alloc (Obj.cells #[Value.int IntKind.u8 (pf.kind % 13 + 1), Value.int IntKind.i64 0, Value.int IntKind.i64 (pf.lists % 4)] 49)).drew := ⟨_, rfl⟩
              rw [← hW1] at hT ⊢
              clear hW1 hTB g0 g1 g2 g3 g4
              have hk0 : kind0 pf = pf.kind % 13 + 1 := rfl
              rw [← hk0] at hT ⊢
              obtain ⟨kd0, hkd0⟩ : ∃ x, x = kind0 pf := ⟨_, rfl⟩
              rw [← hkd0] at hT ⊢
              have hkb : 1 ≤ kd0 ∧ kd0 ≤ 13 := by omega
              have hlE : ∀ W, TW wo W p i l nm vF k RB TB kd0 0 (pf.lists % 4) → True := fun _ _ => trivial
              clear hlE
              have cO1 : W1.cell? ⟨O, 1, none⟩ = some (.slice aE p.enums.length cE) := (hT.f.below.cell (p := ⟨O, 1, none⟩) lOo).trans cO1o
              have cT0 : W1.cell? ⟨TB, 0, none⟩ = some (.int .u8 kd0) := by rw [blk_cell hT.t]; rfl
              have Hk0 := Lib.hid hk0
              have Hkd0 := Lib.hid hkd0
              clear e1 e2 e3 e4 e5 e6 hk0 hkd0
              go_upto_region 24 with (fail)
              go_cut [143] (fun s wc => s = .bool (decide (kd0 = 10 ∧ p.enums.length = 0)) ∧ TW wo wc p i l nm vF k RB TB kd0 0 (pf.lists % 4))
              case first =>
                as_aux_lemma =>
                  by_cases c1 : kd0 = 10
                  · have b1 : (kd0 == 10) = true := by rw [c1]; rfl
                    by_cases c2 : p.enums.length = 0
                    · have b2 : ((p.enums.length : Int) == 0) = true := by rw [c2]; rfl
                      go_wp2
                      go_meet
                      case rel => exact ⟨by simp [c1, c2], hT⟩
                    · have b2 : ((p.enums.length : Int) == 0) = false := by rw [beq_eq_false_iff_ne]; omega
                      go_wp2
                      go_meet
                      case rel => exact ⟨by simp [c1, c2], hT⟩
                  · have b1 : (kd0 == 10) = false := by rw [beq_eq_false_iff_ne]; omega
                    go_wp2
                    go_meet
                    case rel => exact ⟨by simp [c1], hT⟩
              clear hT cO1 cT0 W1
              obtain ⟨rfl, hT⟩ := hcut
              obtain ⟨W1, hW1⟩ : ∃ x, x = wc := ⟨_, rfl⟩
              subst hW1
              go_upto_if 143 with (fail)
              go_cut [] (fun wc => ∃ kd, kd = kind1 p pf ∧ TW wo wc p i l nm vF k RB TB kd 0 (pf.lists % 4))
              case first =>
                as_aux_lemma =>
                  by_cases c : kd0 = 10 ∧ p.enums.length = 0
                  · have hb := decide_eq_true c
                    rw [hb]
                    have cT0 : W1.cell? ⟨TB, 0, none⟩ = some (.int .u8 kd0) := by rw [blk_cell hT.t]; rfl
                    have fT0 : W1.frozen? ⟨TB, 0, none⟩ = false := blk_frozen hT.t _
                    go_wp2
                    go_meet
                    case rel => exact ⟨7, by rw [kind1, ← Hkd0.out, if_pos c], hT.put 0 _ 7 0 rfl⟩
                  · have hb := decide_eq_false c
                    rw [hb]
                    go_wp2
                    go_meet
                    case rel => exact ⟨kd0, by rw [kind1, ← Hkd0.out, if_neg c], hT⟩
              clear hT W1
              obtain ⟨kd, hkd, hT⟩ := hcut
              have hkb1 : 1 ≤ kd ∧ kd ≤ 13 := by rw [hkd, kind1, ← Hkd0.out]; split <;> omega
              have hkE : kd = 10 → 0 < p.enums.length := fun h => by
                rw [hkd, kind1] at h
                split at h
                · omega
                · rename_i hn; omega
              have Hkd := Lib.hid hkd
              clear hkd hkb Hk0 Hkd0
              obtain ⟨W1, hW1⟩ : ∃ x, x = wc := ⟨_, rfl⟩
              subst hW1
              have cT0 : W1.cell? ⟨TB, 0, none⟩ = some (.int .u8 kd) := by rw [blk_cell hT.t]; rfl
              go_upto_if 147 with (fail)
              go_cut [] (fun wc => TW wo wc p i l nm vF k RB TB kd (if kd = 10 then pf.ref % (p.enums.length : Int) else 0) (pf.lists % 4))
              case first =>
                as_aux_lemma =>
                  by_cases c : kd = 10
                  · have b : (kd == 10) = true := by rw [c]; rfl
                    have hep := hkE c
                    have hen0 : (0 : Int) < (p.enums.length : Int) := by omega
                    have hen8 : (p.enums.length : Int) ≤ 8 := by omega
                    have hnz : ((p.enums.length : Int) == 0) = false := by rw [beq_eq_false_iff_ne]; omega
                    have hmod : Int.tmod pf.ref (p.enums.length : Int) = pf.ref % (p.enums.length : Int) := Int.tmod_eq_emod_of_nonneg t0
                    have hw1 : IntKind.i64.wrap pf.ref = pf.ref := IntWalk.i64_in _ (by omega)
                    have hm0 := Int.emod_nonneg pf.ref (b := (p.enums.length : Int)) (by omega)
                    have hm1 := Int.emod_lt_of_pos pf.ref hen0
                    have hw2 : IntKind.i64.wrap (pf.ref % (p.enums.length : Int)) = pf.ref % (p.enums.length : Int) := IntWalk.i64_in _ (by omega)
                    have cO1 : W1.cell? ⟨O, 1, none⟩ = some (.slice aE p.enums.length cE) := (hT.f.below.cell (p := ⟨O, 1, none⟩) lOo).trans cO1o
                    have g2 : W1.cell? ⟨bl, ol + k * 5 + 2, none⟩ = some (.int .u8 pf.ref) := (hT.f.below.cell (p := ⟨bl, ol + k * 5 + 2, none⟩) lblo).trans go2
                    have cT1 : W1.cell? ⟨TB, 1, none⟩ = some (.int .i64 0) := by rw [blk_cell hT.t]; rfl
                    have fT1 : W1.frozen? ⟨TB, 1, none⟩ = false := blk_frozen hT.t _
                    go_wp2_with fail
                    go_region
                    go_wp2_with fail
                    go_meet
                    case rel => rw [if_pos c]; first | exact hT.put 1 _ kd _ rfl | exact (hT.put 1 _ kd _ rfl).drew | exact hT.drew.put 1 _ kd _ rfl
                  · have b : (kd == 10) = false := by rw [beq_eq_false_iff_ne]; exact c
                    go_wp2
                    go_meet
                    case rel => rw [if_neg c]; exact hT
              clear hT cT0 W1
              obtain ⟨rf0, hrf0⟩ : ∃ x, x = (if kd = 10 then pf.ref % (p.enums.length : Int) else 0) := ⟨_, rfl⟩
              rw [← hrf0] at hcut
              have hT := hcut
              clear hcut
              have Hrf0 := Lib.hid hrf0
              clear hrf0
              obtain ⟨W1, hW1⟩ : ∃ x, x = wc := ⟨_, rfl⟩
              subst hW1
              have cT0 : W1.cell? ⟨TB, 0, none⟩ = some (.int .u8 kd) := by rw [blk_cell hT.t]; rfl
              have cP1 : W1.cell? ⟨w.heap.size, 1, none⟩ = some (.slice (some ⟨bs, os, none⟩) p.structs.length cs) := (hT.f.below.cell (p := ⟨w.heap.size, 1, none⟩) lPo).trans cP1o
              have cP3 : W1.cell? ⟨w.heap.size, 3, none⟩ = some (.bool p.tree) := (hT.f.below.cell (p := ⟨w.heap.size, 3, none⟩) lPo).trans cP3o
              go_upto_region 28 with (fail)
              go_cut [173] (fun s wc => s = .bool (decide (kd = 13 ∧ p.tree = true ∧ i + 1 = p.structs.length)) ∧ TW wo wc p i l nm vF k RB TB kd rf0 (pf.lists % 4))
              case first =>
                as_aux_lemma =>
                  by_cases c1 : kd = 13
                  · have b1 : (kd == 13) = true := by rw [c1]; rfl
                    rcases Bool.eq_false_or_eq_true p.tree with ht | ht
                    · rw [ht] at cP3
                      by_cases c2 : i + 1 = p.structs.length
                      · have b2 : ((i : Int) + 1 == (p.structs.length : Int)) = true := by rw [beq_iff_eq]; omega
                        go_wp2
                        go_meet
                        case rel => exact ⟨by simp [c1, c2, ht], hT⟩
                      · have b2 : ((i : Int) + 1 == (p.structs.length : Int)) = false := by rw [beq_eq_false_iff_ne]; omega
                        go_wp2
                        go_meet
                        case rel => exact ⟨by simp [c1, c2, ht], hT⟩
                    · rw [ht] at cP3
                      go_wp2
                      go_meet
                      case rel => exact ⟨by simp [c1, ht], hT⟩
                  · have b1 : (kd == 13) = false := by rw [beq_eq_false_iff_ne]; exact c1
                    go_wp2
                    go_meet
                    case rel => exact ⟨by simp [c1], hT⟩
              clear hT cP1 cP3 cT0 W1
              obtain ⟨rfl, hT⟩ := hcut
              obtain ⟨W1, hW1⟩ : ∃ x, x = wc := ⟨_, rfl⟩
              subst hW1
              go_upto_if 173 with (fail)
              go_cut [] (fun wc => ∃ kd2, kd2 = kind2 p i pf ∧ TW wo wc p i l nm vF k RB TB kd2 rf0 (pf.lists % 4))
              case first =>
                as_aux_lemma =>
                  by_cases c : kd = 13 ∧ p.tree = true ∧ i + 1 = p.structs.length
                  · have hb := decide_eq_true c
                    rw [hb]
                    have cT0 : W1.cell? ⟨TB, 0, none⟩ = some (.int .u8 kd) := by rw [blk_cell hT.t]; rfl
                    have fT0 : W1.frozen? ⟨TB, 0, none⟩ = false := blk_frozen hT.t _
                    go_wp2
                    go_meet
                    case rel => exact ⟨11, by rw [kind2, ← Hkd.out, if_pos c], hT.put 0 _ 11 _ rfl⟩
                  · have hb := decide_eq_false c
                    rw [hb]
                    go_wp2
                    go_meet
                    case rel => exact ⟨kd, by rw [kind2, ← Hkd.out, if_neg c], hT⟩
              clear hT W1
              obtain ⟨kd2, hkd2, hT⟩ := hcut
              have hkb2 : 1 ≤ kd2 ∧ kd2 ≤ 13 := by rw [hkd2, kind2, ← Hkd.out]; split <;> omega
              have hk10 : kd2 = 10 ↔ kd = 10 := by rw [hkd2, kind2, ← Hkd.out]; split <;> omega
              have hk13 : kd2 = 13 → p.tree = true → i + 1 < p.structs.length := fun h ht => by
                rw [hkd2, kind2, ← Hkd.out] at h
                split at h
                · omega
                · rename_i hn
                  rcases Nat.lt_or_ge (i + 1) p.structs.length with h' | h'
                  · exact h'
                  · exact absurd ⟨h, ht, by omega⟩ hn
              have hrf1 : kd2 ≠ 10 → rf0 = 0 := fun h => by rw [Hrf0.out, if_neg (fun e => h (hk10.2 e))]
              have hrf2 : kd2 = 10 → rf0 = pf.ref % (p.enums.length : Int) := fun h => by rw [Hrf0.out, if_pos (hk10.1 h)]
              have hkE2 : kd2 = 10 → 0 < p.enums.length := fun h => hkE (hk10.1 h)
              have Hkd2 := Lib.hid hkd2
              clear hkd2 hkb1 Hkd Hrf0 hk10 hkE
              obtain ⟨W1, hW1⟩ : ∃ x, x = wc := ⟨_, rfl⟩
              subst hW1
              have cT0 : W1.cell? ⟨TB, 0, none⟩ = some (.int .u8 kd2) := by rw [blk_cell hT.t]; rfl
              go_upto_if 177 with (fail)
              go_cut [] (fun wc => TW wo wc p i l nm vF k RB TB kd2 (ref2 p i pf) (pf.lists % 4))
              case first =>
                as_aux_lemma =>
                  by_cases c : kd2 = 13
                  · have b : (kd2 == 13) = true := by rw [c]; rfl
                    have hmod : Int.tmod pf.ref (p.structs.length : Int) = pf.ref % (p.structs.length : Int) := Int.tmod_eq_emod_of_nonneg t0
                    have hnz : ((p.structs.length : Int) == 0) = false := by rw [beq_eq_false_iff_ne]; omega
                    have hw1 : IntKind.i64.wrap pf.ref = pf.ref := IntWalk.i64_in _ (by omega)
                    have hm0 := Int.emod_nonneg pf.ref (b := (p.structs.length : Int)) (by omega)
                    have hm1 := Int.emod_lt_of_pos pf.ref hn0
                    have hw2 : IntKind.i64.wrap (pf.ref % (p.structs.length : Int)) = pf.ref % (p.structs.length : Int) := IntWalk.i64_in _ (by omega)
                    have cP1 : W1.cell? ⟨w.heap.size, 1, none⟩ = some (.slice (some ⟨bs, os, none⟩) p.structs.length cs) := (hT.f.below.cell (p := ⟨w.heap.size, 1, none⟩) lPo).trans cP1o
                    have g2 : W1.cell? ⟨bl, ol + k * 5 + 2, none⟩ = some (.int .u8 pf.ref) := (hT.f.below.cell (p := ⟨bl, ol + k * 5 + 2, none⟩) lblo).trans go2
                    have cT1 : W1.cell? ⟨TB, 1, none⟩ = some (.int .i64 rf0) := by rw [blk_cell hT.t]; rfl
                    have fT1 : W1.frozen? ⟨TB, 1, none⟩ = false := blk_frozen hT.t _
                    go_wp2_with fail
                    go_region
                    obtain ⟨W2, hW2⟩ : ∃ x, x = (W1.setCell ⟨TB, 1, none⟩ (.int .i64 (pf.ref % (p.structs.length : Int)))).drew := ⟨_, rfl⟩
                    have hT2 : TW wo W2 p i l nm vF k RB TB kd2 (pf.ref % (p.structs.length : Int)) (pf.lists % 4) := by rw [hW2]; exact (hT.put 1 _ kd2 _ rfl).drew
                    rw [← hW2]
                    clear hT cT0 cT1 fT1 g2 cP1 hW2
                    have cP3 : W2.cell? ⟨w.heap.size, 3, none⟩ = some (.bool p.tree) := (hT2.f.below.cell (p := ⟨w.heap.size, 3, none⟩) lPo).trans cP3o
                    rcases Bool.eq_false_or_eq_true p.tree with ht | ht
                    · rw [ht] at cP3
                      have hlt := hk13 c ht
                      have cP1 : W2.cell? ⟨w.heap.size, 1, none⟩ = some (.slice (some ⟨bs, os, none⟩) p.structs.length cs) := (hT2.f.below.cell (p := ⟨w.heap.size, 1, none⟩) lPo).trans cP1o
                      have g2 : W2.cell? ⟨bl, ol + k * 5 + 2, none⟩ = some (.int .u8 pf.ref) := (hT2.f.below.cell (p := ⟨bl, ol + k * 5 + 2, none⟩) lblo).trans go2
                      have cT1 : W2.cell? ⟨TB, 1, none⟩ = some (.int .i64 (pf.ref % (p.structs.length : Int))) := by rw [blk_cell hT2.t]; rfl
                      have fT1 : W2.frozen? ⟨TB, 1, none⟩ = false := blk_frozen hT2.t _
                      clear hmod hnz hm0 hm1 hw2
                      have hdp : (0 : Int) < (p.structs.length : Int) - (i : Int) - 1 := by omega
                      have hmod : Int.tmod pf.ref ((p.structs.length : Int) - (i : Int) - 1) = pf.ref % ((p.structs.length : Int) - (i : Int) - 1) := Int.tmod_eq_emod_of_nonneg t0
                      have hnz : ((p.structs.length : Int) - (i : Int) - 1 == 0) = false := by rw [beq_eq_false_iff_ne]; omega
                      have hm0 := Int.emod_nonneg pf.ref (b := ((p.structs.length : Int) - (i : Int) - 1)) (by omega)
                      have hm1 := Int.emod_lt_of_pos pf.ref hdp
                      have hw2 : IntKind.i64.wrap (pf.ref % ((p.structs.length : Int) - (i : Int) - 1)) = pf.ref % ((p.structs.length : Int) - (i : Int) - 1) := IntWalk.i64_in _ (by omega)
                      have hw3 : IntKind.i64.wrap ((p.structs.length : Int) - (i : Int)) = (p.structs.length : Int) - (i : Int) := IntWalk.i64_in _ (by omega)
                      have hw4 : IntKind.i64.wrap ((p.structs.length : Int) - (i : Int) - 1) = (p.structs.length : Int) - (i : Int) - 1 := IntWalk.i64_in _ (by omega)
                      have hw5 : IntKind.i64.wrap ((i : Int) + 1) = (i : Int) + 1 := IntWalk.i64_in _ (by omega)
                      have hw6 : IntKind.i64.wrap ((i : Int) + 1 + pf.ref % ((p.structs.length : Int) - (i : Int) - 1)) = (i : Int) + 1 + pf.ref % ((p.structs.length : Int) - (i : Int) - 1) := IntWalk.i64_in _ (by omega)
                      go_wp2_with fail
                      go_region
                      go_wp2_with fail
                      go_meet
                      case rel =>
                        have e : ref2 p i pf = (i : Int) + 1 + pf.ref % ((p.structs.length : Int) - (i : Int) - 1) := by
                          rw [ref2, ← Hkd2.out, if_neg (by omega), if_pos c, if_pos ht]
                        rw [e]; exact (hT2.put 1 _ kd2 _ rfl).drew
                    · rw [ht] at cP3
                      go_wp2_with fail
                      go_meet
                      case rel =>
                        have e : ref2 p i pf = pf.ref % (p.structs.length : Int) := by
                          rw [ref2, ← Hkd2.out, if_neg (by omega), if_pos c, if_neg (by rw [ht]; simp)]
                        rw [e]; exact hT2
                  · have b : (kd2 == 13) = false := by rw [beq_eq_false_iff_ne]; exact c
                    go_wp2
                    go_meet
                    case rel =>
                      have e : ref2 p i pf = rf0 := by
                        rw [ref2, ← Hkd2.out]
                        by_cases c10 : kd2 = 10
                        · rw [if_pos c10, hrf2 c10]
                        · rw [if_neg c10, if_neg c, hrf1 c10]
                      rw [e]; exact hT
              clear hT cT0 W1 hrf1 hrf2
              have hT := hcut
              clear hcut
              obtain ⟨rf, hrf⟩ : ∃ x, x = ref2 p i pf := ⟨_, rfl⟩
              rw [← hrf] at hT
              have hrfE : kd2 = 10 → rf = pf.ref % (p.enums.length : Int) := fun h => by rw [hrf, ref2, ← Hkd2.out, if_pos h]
              have Hrf := Lib.hid hrf
              clear hrf
              obtain ⟨ls, hls⟩ : ∃ x, x = pf.lists % 4 := ⟨_, rfl⟩
              rw [← hls] at hT
              have Hls := Lib.hid hls
              clear hls
              obtain ⟨W1, hW1⟩ : ∃ x, x = wc := ⟨_, rfl⟩
              subst hW1
              have cT0 : W1.cell? ⟨TB, 0, none⟩ = some (.int .u8 kd2) := by rw [blk_cell hT.t]; rfl
              have cT1 : W1.cell? ⟨TB, 1, none⟩ = some (.int .i64 rf) := by rw [blk_cell hT.t]; rfl
              have cT2 : W1.cell? ⟨TB, 2, none⟩ = some (.int .i64 ls) := by rw [blk_cell hT.t]; rfl
              have g3 : W1.cell? ⟨bl, ol + k * 5 + 3, none⟩ = some (.int .u8 pf.name) := (hT.f.below.cell (p := ⟨bl, ol + k * 5 + 3, none⟩) lblo).trans go3
              have lblW : bl < W1.heap.size := by have := hT.f.below.size; omega
              have lTB := blk_lt hT.t
              go_upto_region 34 with (fail)
              go_cut [13] (fun s wc => ∃ FB, s = .pointer (some ⟨FB, 0, none⟩) ∧ FW wo wc p i l nm vF k RB TB FB (labelOf pf.name k) kd2 rf ls 0)
              case first =>
                as_aux_lemma =>
                  have d3 : W1.drew.cell? ⟨bl, ol + k * 5 + 3, none⟩ = some (.int .u8 pf.name) := g3
                  have d0' : W1.drew.cell? ⟨TB, 0, none⟩ = some (.int .u8 kd2) := cT0
                  have d1' : W1.drew.cell? ⟨TB, 1, none⟩ = some (.int .i64 rf) := cT1
                  have d2' : W1.drew.cell? ⟨TB, 2, none⟩ = some (.int .i64 ls) := cT2
                  go_region_held3 (fun w' => w'.cell? ⟨bl, ol + k * 5 + 3, none⟩ = some (.int .u8 pf.name) ∧ w'.cell? ⟨TB, 0, none⟩ = some (.int .u8 kd2) ∧ w'.cell? ⟨TB, 1, none⟩ = some (.int .i64 rf) ∧ w'.cell? ⟨TB, 2, none⟩ = some (.int .i64 ls)) (((try go_split_ands); refine ⟨?_, ?_, ?_, ?_⟩ <;> (first | (with_reducible assumption) | (with_reducible (refine alloc_keep ?_; assumption)) | (with_reducible (refine drew_keep (alloc_keep ?_); assumption)) | (with_reducible (refine (hB.cell ?_).trans ?_; rotate_left; assumption); go_size) | (with_reducible (refine alloc_keep ((hB.cell ?_).trans ?_); rotate_left; assumption); go_size) | (with_reducible (refine (hB.cell ?_).trans (drew_keep (alloc_keep ?_)); rotate_left; assumption); go_size) | (with_reducible (refine (hB.cell ?_).trans (alloc_keep ?_); rotate_left; assumption); go_size) | (with_reducible (refine setNew_keep (setNew_keep (setNew_keep (setNew_keep (setNew_keep ((hB.cell ?_).trans (drew_keep (alloc_keep ?_))) ?_) ?_) ?_) ?_) ?_; rotate_left; assumption); iterate 6 go_size) | fail))) (first | (go_at_call 29; refine (label_calls _ _ n0 n1 (by omega) _).mono ?_; rintro e wB ⟨rfl, hB⟩; have hzB := hB.size; (try simp only [World.size_alloc, World.size_drew] at hzB); obtain ⟨hcB, hfB⟩ := bcell hB))
                  all_goals go_wp2_with fail
                  all_goals go_meet
                  · exact ⟨_, rfl, FW.start0 (hT.drew.below hB) _⟩
                  · exact ⟨_, rfl, FW.late hT _ _ hB⟩
              clear hT cT0 cT1 cT2 g3 lblW lTB W1
              obtain ⟨FB, rfl, hF2⟩ := hcut
              obtain ⟨W1, hW1⟩ : ∃ x, x = wc := ⟨_, rfl⟩
              subst hW1
              obtain ⟨lb, hlb⟩ : ∃ x, x = labelOf pf.name k := ⟨_, rfl⟩
              rw [← hlb] at hF2
              have cT0 : W1.cell? ⟨TB, 0, none⟩ = some (.int .u8 kd2) := by rw [blk_cell hF2.t.t]; rfl
              have cT1 : W1.cell? ⟨TB, 1, none⟩ = some (.int .i64 rf) := by rw [blk_cell hF2.t.t]; rfl
              have cT2 : W1.cell? ⟨TB, 2, none⟩ = some (.int .i64 ls) := by rw [blk_cell hF2.t.t]; rfl
              go_upto_if 218 with ((go_at_call 30; refine (refIsNum_calls kd2 rf ls (by omega) (by omega) _).mono ?_; rintro e wB ⟨rfl, hB⟩; have hzB := hB.size; (try simp only [World.size_alloc, World.size_setCell, World.size_drew] at hzB); obtain ⟨hcB, hfB⟩ := bcell hB))
              have hF3 := hF2.below hB
              clear cT0 cT1 cT2 hF2 hcB hfB hzB hB W1
              obtain ⟨W1, hW1⟩ : ∃ x, x = wB := ⟨_, rfl⟩
              subst hW1
              obtain ⟨nv, hnv⟩ : ∃ x, x = valCount (iget p.enums rf.toNat) := ⟨_, rfl⟩
              go_cut [] (fun wc => FW wo wc p i l nm vF k RB TB FB lb kd2 rf ls (if isNumB kd2 ls = true then numberOf (nv : Int) kd2 pf.df else 0))
              case first =>
                as_aux_lemma =>
                  rcases Bool.eq_false_or_eq_true (isNumB kd2 ls) with hnb | hnb
                  · rw [hnb]
                    obtain rfl := isNum_lists _ _ hnb
                    have hkn := kind_nz _ hnb
                    have cT0 : W1.cell? ⟨TB, 0, none⟩ = some (.int .u8 kd2) := by rw [blk_cell hF3.t.t]; rfl
                    have cT1 : W1.cell? ⟨TB, 1, none⟩ = some (.int .i64 rf) := by rw [blk_cell hF3.t.t]; rfl
                    have cT2 : W1.cell? ⟨TB, 2, none⟩ = some (.int .i64 0) := by rw [blk_cell hF3.t.t]; rfl
                    have hOb := blk_below hJ.o hF3.t.f.below lOo
                    have cO0 : W1.cell? ⟨O, 0, none⟩ = some vS := by rw [blk_cell hOb]; rfl
                    have cO1 : W1.cell? ⟨O, 1, none⟩ = some (.slice aE p.enums.length cE) := by rw [blk_cell hOb]; rfl
                    have cO2 : W1.cell? ⟨O, 2, none⟩ = some (.int .i64 (p.root % (p.structs.length : Int))) := by rw [blk_cell hOb]; rfl
                    have g4 : W1.cell? ⟨bl, ol + k * 5 + 4, none⟩ = some (.int .u64 pf.df) := (hF3.t.f.below.cell (p := ⟨bl, ol + k * 5 + 4, none⟩) lblo).trans go4
                    have lF := blk_lt hF3.f
                    have fF4 : ∀ j, W1.frozen? ⟨FB, j, none⟩ = false := fun j => blk_frozen hF3.f _
                    have cF4 : W1.cell? ⟨FB, 4, none⟩ = some (.int .u64 0) := by rw [blk_cell hF3.f]; rfl
                    have hbW := hF3.t.f.below
                    have h10 : kd2 = 10 → ∃ (b o r : Nat) (vn : Option Addr) (cn : Nat), aE = some ⟨b, o, none⟩ ∧ rf = (r : Int) ∧ r < p.enums.length ∧ 0 < nv ∧ nv < 1000 ∧ b < W1.heap.size ∧ W1.cell? ⟨b, o + r * 2 + 1, none⟩ = some (.slice vn nv cn) := by
                      intro h
                      have hep := hkE2 h
                      obtain ⟨b, hb, hbO, hblt, hcell⟩ := hEcell hep
                      have hr := hrfE h
                      have hr0 := Int.emod_nonneg pf.ref (b := (p.enums.length : Int)) (by omega)
                      have hr1 := Int.emod_lt_of_pos pf.ref (b := (p.enums.length : Int)) (by omega)
                      rw [← hr] at hr0 hr1
                      have hrl : rf.toNat < p.enums.length := by omega
                      obtain ⟨b', c', ⟨hv, _⟩, hl, _, _, _⟩ := hI.held rf.toNat hrl
                      have hc1 := (hcell rf.toNat hrl).2
                      have hmn : (madeNames (iget p.enums rf.toNat)).length = nv := by rw [hnv]; simp [madeNames]
                      simp only [hv, hmn] at hc1
                      have hbo : b ≠ O := by omega
                      have hbw : b < wo.heap.size := by have := hJ.sz; omega
                      refine ⟨b, 0, rf.toNat, some ⟨b', 0, none⟩, c', hb, by omega, hrl, by rw [hnv]; unfold valCount; omega, by rw [hnv]; unfold valCount; omega, by have := hbW.size; omega, ?_⟩
                      rw [Nat.zero_add, hbW.cell (p := ⟨b, _, none⟩) hbw, World.cell?_of_block (w := w0) (a := ⟨b, _, none⟩) (hJ.old b hblt hbo)]
                      exact hc1
                    have hcal := number_calls vS aE p.enums.length cE nv (p.root % (p.structs.length : Int)) kd2 rf 0 pf.df hkn d0 d1 W1.drew h10
                    clear h10 hbW
                    go_wp2_with fail
                    have e4 : W1.drew.cell? ⟨bl, ol + k * 5 + 4, none⟩ = some (.int .u64 pf.df) := g4
                    have e0 : W1.drew.cell? ⟨O, 0, none⟩ = some vS := cO0
                    have e1 : W1.drew.cell? ⟨O, 1, none⟩ = some (.slice aE p.enums.length cE) := cO1
                    have e2 : W1.drew.cell? ⟨O, 2, none⟩ = some (.int .i64 (p.root % (p.structs.length : Int))) := cO2
                    have u0 : W1.drew.cell? ⟨TB, 0, none⟩ = some (.int .u8 kd2) := cT0
                    have u1 : W1.drew.cell? ⟨TB, 1, none⟩ = some (.int .i64 rf) := cT1
                    have u2 : W1.drew.cell? ⟨TB, 2, none⟩ = some (.int .i64 0) := cT2
                    have lblW : bl < W1.heap.size := by have := hF3.t.f.below.size; omega
                    have lOW : O < W1.heap.size := by have := hF3.t.f.below.size; omega
                    have lTW := blk_lt hF3.t.t
                    have nbF : ¬ FB = bl := by have := hF3.tb; have := hF3.t.tb; have := hF3.t.f.d; omega
                    have nOF : ¬ FB = O := by have := hF3.tb; have := hF3.t.tb; have := hF3.t.f.d; omega
                    have nTF : ¬ FB = TB := by have := hF3.tb; omega
                    clear g4 cO0 cO1 cO2 cT0 cT1 cT2
                    go_region_held3 (fun w' => w'.cell? ⟨bl, ol + k * 5 + 4, none⟩ = some (.int .u64 pf.df) ∧ w'.cell? ⟨O, 0, none⟩ = some vS ∧ w'.cell? ⟨O, 1, none⟩ = some (.slice aE p.enums.length cE) ∧ w'.cell? ⟨O, 2, none⟩ = some (.int .i64 (p.root % (p.structs.length : Int))) ∧ w'.cell? ⟨TB, 0, none⟩ = some (.int .u8 kd2) ∧ w'.cell? ⟨TB, 1, none⟩ = some (.int .i64 rf) ∧ w'.cell? ⟨TB, 2, none⟩ = some (.int .i64 0)) (((try go_split_ands); refine ⟨?_, ?_, ?_, ?_, ?_, ?_, ?_⟩ <;> (first | (with_reducible assumption) | (with_reducible (refine (hB.cell ?_).trans ?_; rotate_left; assumption); go_size) | (refine (World.cell?_setCell_far _ _ _ _ (by assumption)).trans ?_; with_reducible assumption)))) (first | (go_at_call 31; refine hcal.mono ?_; rintro e wB ⟨rfl, hB⟩; have hzB := hB.size; have f4B := (hB.cell (p := ⟨FB, 4, none⟩) lF).trans cF4; have f4F := ((bcell hB).2 FB 4 lF).trans (fF4 4)))
                    all_goals go_wp2_with fail
                    all_goals go_meet
                    all_goals (rw [if_pos hnb, hnv]; exact ((hF3.drew.below hB).put _))
                  · rw [hnb]
                    go_wp2
                    go_meet
                    case rel => rw [if_neg (by simp [hnb])]; exact hF3
              clear hF3 W1
              have hF2 := hcut
              clear hcut
              obtain ⟨df, hdf⟩ : ∃ x, x = (if isNumB kd2 ls = true then numberOf (nv : Int) kd2 pf.df else 0) := ⟨_, rfl⟩
              rw [← hdf] at hF2
              have hmf : madeField p i k (pfget l k) = ⟨lb, kd2, rf, ls, df⟩ := by
                rw [← HPF.out, madeField, ← Hkd2.out, ← Hrf.out, ← Hls.out, ← hnv, ← hdf, ← hlb]
              have Hmf := Lib.hid hmf
              clear hmf hdf hnv hlb
              obtain ⟨W1, hW1⟩ : ∃ x, x = wc := ⟨_, rfl⟩
              subst hW1
              obtain ⟨fi, hfi, hzf0, hzf1, hzf2⟩ := info_parts info_sfield
              have hF4 := hF2.t.f
              have hFb := hF2.f
              have cR1 : W1.cell? ⟨RB, 1, none⟩ = some vF := by rw [blk_cell hF4.r]; rfl
              have cF0 : W1.cell? ⟨FB, 0, none⟩ = some (.string lb) := by rw [blk_cell hFb]; rfl
              have cF1 : W1.cell? ⟨FB, 1, none⟩ = some (.int .u8 kd2) := by rw [blk_cell hFb]; rfl
              have cF2 : W1.cell? ⟨FB, 2, none⟩ = some (.int .i64 rf) := by rw [blk_cell hFb]; rfl
              have cF3 : W1.cell? ⟨FB, 3, none⟩ = some (.int .i64 ls) := by rw [blk_cell hFb]; rfl
              have cF4 : W1.cell? ⟨FB, 4, none⟩ = some (.int .u64 df) := by rw [blk_cell hFb]; rfl
              have hown := hF4.own
              have lR := blk_lt hF4.r
              have hk16 : (k : Int) < 16 := by omega
              go_wp2_with (at_builtin; refine wpList_append_lies _ rfl _ _ 80 rfl (RB + 1) 79 fi (.agg #[.string ⟨#[]⟩, .int .u8 0, .int .i64 0, .int .i64 0, .int .u64 0]) 5 48 Tryd.underlying80 hfi hzf0 hzf1 hzf2 rfl (by decide) _ _ _ rfl (hown.alloc _) ⟨W1.heap.size, 0, none⟩ 1 1 [.string lb, .int .u8 kd2, .int .i64 rf, .int .i64 ls, .int .u64 df] rfl rfl (news_five _ _ _ _ _ _ _) (by simp [Value.oneCell']) (by decide) (by unfold maxLen; omega) (by omega) (by simp; omega) _ rfl ?_)
              intro g cap w1 hown1 hgr1 hat hlt
              have hnR : some RB ≠ vF.ownBlock := fun e => by have := (hF4.own.lt RB e.symm).1; omega
              have hR1 := (hgr1.block RB (by simp; omega) hnR).trans (blk_alloc hF4.r _)
              have dR1 : w1.cell? ⟨RB, 1, none⟩ = some vF := by rw [blk_cell hR1]; rfl
              have eR1 : w1.frozen? ⟨RB, 1, none⟩ = false := blk_frozen hR1 _
              have hz1 : W1.heap.size + 1 ≤ w1.heap.size := by have := hgr1.size; simpa using this
              clear hown cR1 cF0 cF1 cF2 cF3 cF4
              go_wp2
              refine ⟨⟨k + 1, .slice (some ⟨g, 0, none⟩) (k + 1) cap, by omega, by go_num, ?_⟩, by simp [intOf]; exact meas_succ hkn⟩
              exact hF4.step Hmf.out hgr1 hR1 hown1
            ·
              as_aux_lemma =>
                obtain rfl : k = l.length := by omega
                have hlp : 0 < l.length := by omega
                obtain ⟨gf, cf, rfl, hgf1, hgf2, hrow⟩ := own_fives _ hF.own hlp
                have HCF := Lib.hid (own_cap hF.own)
                have hbb := hF.below
                have hO1 := blk_below hJ.o hbb lOo
                have cO0 : wr.cell? ⟨O, 0, none⟩ = some vS := by rw [blk_cell hO1]; rfl
                have cR0 : wr.cell? ⟨RB, 0, none⟩ = some (.string nm) := by rw [blk_cell hF.r]; rfl
                have cR1 : wr.cell? ⟨RB, 1, none⟩ = some (.slice (some ⟨gf, 0, none⟩) l.length cf) := by rw [blk_cell hF.r]; rfl
                have hbs := hbb.size
                have hdd := hF.d
                have hsz0 := hJ.sz
                obtain ⟨ir, hir, hzr0, hzr1, hzr2⟩ := info_parts info_record
                have howS : wr.ownsRow w0.heap.size 82 2 vS i ((List.range i).flatMap fun j => [.string (nameOf 83 j), vf j]) := ownsRow_at hJ.own (fun g hg => hbb.block g (hJ.own.lt g hg).2)
                go_wp2_with (at_builtin; refine wpList_append_lies _ rfl _ _ 29 rfl w0.heap.size 82 ir (.agg #[.string ⟨#[]⟩, .slice none 0 0]) 2 40 Tryd.underlying29 hir hzr0 hzr1 hzr2 rfl (by decide) _ _ _ rfl (howS.alloc _) ⟨wr.heap.size, 0, none⟩ 1 1 [.string nm, .slice (some ⟨gf, 0, none⟩) l.length cf] rfl rfl (cell_two_new _ _ _ _) (by simp [Value.oneCell']) (by decide) (by unfold maxLen; omega) (by omega) (by simp; omega) _ rfl ?_)
                intro g2 cap2 w2 hown2 hgr2 hat2 hlt2
                have hnO : some O ≠ vS.ownBlock := fun e => by have := (hJ.own.lt O e.symm).1; omega
                have hO2 := (hgr2.block O (by simp; omega) hnO).trans (blk_alloc hO1 _)
                have dO0 : w2.cell? ⟨O, 0, none⟩ = some vS := by rw [blk_cell hO2]; rfl
                have eO0 : w2.frozen? ⟨O, 0, none⟩ = false := blk_frozen hO2 _
                have hz2 : wr.heap.size + 1 ≤ w2.heap.size := by have := hgr2.size; simpa using this
                have hold : ∀ b, b < wo.heap.size → some b ≠ vS.ownBlock → w2.heap[b]? = wo.heap[b]? := fun b hb hn => (hgr2.block b (by simp; omega) hn).trans ((Below.heap_alloc _ _ _ (by omega)).trans (hbb.block b hb))
                have Hold := Lib.hid hold
                clear hold howS cO0 cR0 cR1
                go_wp2
                refine ⟨⟨i + 1, .slice (some ⟨g2, 0, none⟩) (i + 1) cap2, fun j => if j = i then .slice (some ⟨gf, 0, none⟩) l.length cf else vf j, by omega, by go_num, ?_, fun j hj => ?_⟩, by simp [intOf]; exact meas_succ hin⟩
                · exact hJ.step hbb (by rw [← HL.out]) HCF.out (by omega) hgf2 (by rw [← HL.out]; exact hrow) (by rw [HNM.out, HBX.out]; rfl) lO (by omega) hgr2 hat2 hO2 hown2
                · by_cases hji : j = i
                  · subst hji; rw [← HL.out]; omega
                  · exact hgood j (by omega)

end Go.Proofs.YtejpjclbeogajaaDoor
