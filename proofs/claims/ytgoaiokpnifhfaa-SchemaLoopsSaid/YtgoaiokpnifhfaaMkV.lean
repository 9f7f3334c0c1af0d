/-
  schema.value: a written default.
-/
import Derived.Test.YtgoaiokpnifhfaaMkC
import Derived.Test.YtgoaiokpnifhfaaRawSz
import Derived.Test.YtgoaiokpnifhfaaEff
import Derived.Test.YtgoaiokpnifhfaaNoEnter
import Derived.BigQuiet
namespace Go.Proofs.Ytgoaiokpnifhfaa
open Go.RowKit
set_option linter.unusedVariables false
set_option linter.unusedSimpArgs false

set_option maxHeartbeats 400000 in
theorem kindSign_calls (k : Int) (w : World) :
    Calls Try.prog 75 #[.int .u8 k] w fun e w' => e = .returned (.bool (kindSign k)) ∧ w = w' := by
  unfold kindSign
  go_enter Try.func75, Try.ntmps75
  go_wp2
  all_goals go_ret
  all_goals exact ⟨by first | (simp_all; done) | (simp_all; omega), rfl⟩

/-- what a default comes to -/
structure ValPost (o : Option Int) (w : World) (e : Ending) (w' : World) : Prop where
  val : ∃ n : Int, e = .returned (.tuple #[.int .u64 n, .bool o.isSome]) ∧ ∀ x, o = some x → n = x
  below : Below w.heap.size w w'

theorem three1 (w : World) (a b c : Obj) : (((w.alloc a).alloc b).alloc c).heap[w.heap.size]? = some a := blk_alloc (blk_alloc (blk_new w a) _) _
theorem three2 (w : World) (a b c : Obj) : (((w.alloc a).alloc b).alloc c).heap[w.heap.size + 1]? = some b := by
  have := blk_new (w.alloc a) b
  rw [World.size_alloc] at this
  exact blk_alloc this _
theorem three3 (w : World) (a b c : Obj) : (((w.alloc a).alloc b).alloc c).heap[w.heap.size + 1 + 1]? = some c := by
  have := blk_new ((w.alloc a).alloc b) c
  rw [World.size_alloc, World.size_alloc] at this
  exact this
theorem three_below (w : World) (a b c : Obj) : Below w.heap.size w (((w.alloc a).alloc b).alloc c) := (((below1 w a).alloc (by simp) b).alloc (by simp; omega) c)

/-- an operation that is no call, its run known -/
theorem val_wp {P : Program} {o : Oper} {a : Act} {w w' : World} {K : Act → World → Prop} {Q' : Exit → Act → World → Prop} (v : Value) (hrun : (execOp a.eval o).run P w = .ok (.value v) w') (h : K (a.put o.dst v) w') : o.wp P a w K Q' := by
  unfold Oper.wp
  rw [hrun]
  exact h
theorem call_wp2 {P : Program} {o : Oper} {a : Act} {w : World} {K : Act → World → Prop} {Q' : Exit → Act → World → Prop} (f : FuncId) (args : Array Value) (hrun : (execOp a.eval o).run P w = .ok (.enter f args) w) (v : Value) (S : World → Prop) (hC : Calls P f args w fun e w' => e = .returned v ∧ S w') (h : ∀ w', S w' → K (a.put o.dst v) w') : o.wp P a w K Q' := by
  unfold Oper.wp
  rw [hrun]
  simp only [Oper.upon]
  exact hC.mono fun e w' hh => by obtain ⟨rfl, hs⟩ := hh; exact h w' hs
theorem false_eqS (s : ByteArray) : (s.toList == [102, 97, 108, 115, 101]) = eqS s cFalse := by rw [eqS, ← Go.ByteArray.toList_eq]; rfl
theorem true_eqS (s : ByteArray) : (s.toList == [116, 114, 117, 101]) = eqS s cTrue := by rw [eqS, ← Go.ByteArray.toList_eq]; rfl

set_option maxHeartbeats 4000000 in
set_option maxRecDepth 100000 in
theorem value_calls (r : RawD) (hbd : RawBd r) (a1 a2 a3 : Option Addr) (c1 c2 c3 : Nat) (k : Int) (rf ls : Nat) (d : Tok) (hd : d.text.size ≤ 8192) (hk : k = 10 → rf < r.enums.length) (w : World) (h : RawRows w a1 a2 a3 r) :
    Calls Try.prog 66 #[.agg #[.slice a1 r.structs.length c1, .slice a2 r.enums.length c2, .slice a3 r.roots.length c3], .agg #[.int .u8 k, .int .i64 (rf : Int), .int .i64 (ls : Int)], .agg #[.int .i64 d.kind, .string d.text, .int .i64 (d.pos : Int)]] w (ValPost (valueI r k rf ls d) w) := by
  have b1 := three1 w (Obj.cells #[.slice a1 r.structs.length c1, .slice a2 r.enums.length c2, .slice a3 r.roots.length c3] 27) (Obj.cells #[.int .u8 k, .int .i64 (rf : Int), .int .i64 (ls : Int)] 67) (Obj.cells #[.int .i64 d.kind, .string d.text, .int .i64 (d.pos : Int)] 41)
  have b2 := three2 w (Obj.cells #[.slice a1 r.structs.length c1, .slice a2 r.enums.length c2, .slice a3 r.roots.length c3] 27) (Obj.cells #[.int .u8 k, .int .i64 (rf : Int), .int .i64 (ls : Int)] 67) (Obj.cells #[.int .i64 d.kind, .string d.text, .int .i64 (d.pos : Int)] 41)
  have b3 := three3 w (Obj.cells #[.slice a1 r.structs.length c1, .slice a2 r.enums.length c2, .slice a3 r.roots.length c3] 27) (Obj.cells #[.int .u8 k, .int .i64 (rf : Int), .int .i64 (ls : Int)] 67) (Obj.cells #[.int .i64 d.kind, .string d.text, .int .i64 (d.pos : Int)] 41)
  have bb := three_below w (Obj.cells #[.slice a1 r.structs.length c1, .slice a2 r.enums.length c2, .slice a3 r.roots.length c3] 27) (Obj.cells #[.int .u8 k, .int .i64 (rf : Int), .int .i64 (ls : Int)] 67) (Obj.cells #[.int .i64 d.kind, .string d.text, .int .i64 (d.pos : Int)] 41)
  obtain ⟨W, hW⟩ : ∃ W, W = ((w.alloc (Obj.cells #[.slice a1 r.structs.length c1, .slice a2 r.enums.length c2, .slice a3 r.roots.length c3] 27)).alloc (Obj.cells #[.int .u8 k, .int .i64 (rf : Int), .int .i64 (ls : Int)] 67)).alloc (Obj.cells #[.int .i64 d.kind, .string d.text, .int .i64 (d.pos : Int)] 41) := ⟨_, rfl⟩
  rw [← hW] at b1 b2 b3 bb
  have hR := h.below bb
  obtain ⟨S, hS⟩ : ∃ S, S = w.heap.size := ⟨_, rfl⟩
  rw [← hS] at b1 b2 b3
  have e1 : W.cell? ⟨S, 1, none⟩ = some (.slice a2 r.enums.length c2) := by rw [blk_cell b1]; rfl
  have t0 : W.cell? ⟨S + 1, 0, none⟩ = some (.int .u8 k) := by rw [blk_cell b2]; rfl
  have t1 : W.cell? ⟨S + 1, 1, none⟩ = some (.int .i64 (rf : Int)) := by rw [blk_cell b2]; rfl
  have t2 : W.cell? ⟨S + 1, 2, none⟩ = some (.int .i64 (ls : Int)) := by rw [blk_cell b2]; rfl
  have d0 : W.cell? ⟨S + 1 + 1, 0, none⟩ = some (.int .i64 d.kind) := by rw [blk_cell b3]; rfl
  have d1 : W.cell? ⟨S + 1 + 1, 1, none⟩ = some (.string d.text) := by rw [blk_cell b3]; rfl
  have l1 := blk_lt b1
  have l2 := blk_lt b2
  have l3 := blk_lt b3
  have HBB := Lib.hid bb
  have HRR := Lib.hid hR
  have HS := Lib.hid hS
  have HBD := Lib.hid hbd
  have HD := Lib.hid hd
  clear h bb hR b1 b2 b3 hbd hd
  have hval : valueI r k rf ls d = if 0 < ls then none
    else if k = 1 then (if d.kind = 1 then (if eqS d.text cTrue = true then some 1 else if eqS d.text cFalse = true then some 0 else none) else none)
    else if k = 10 then (if d.kind = 1 then Option.map (fun (i : Nat) => (i : Int)) (itemIx r rf d.text) else none)
    else if d.kind = 2 then numOf d.text (kindSize k) (kindSign k) else none := rfl
  have HVAL := Lib.hid hval
  clear hval
  generalize valueI r k rf ls d = val at *
  go_enter Try.func66, Try.ntmps66
  go_upto_region 1 with (fail)
  rw [← hW, ← hS]
  clear hW hS
  by_cases hls : 0 < ls
  · have hv : val = none := by rw [HVAL.out, if_pos hls]
    subst hv
    have dl : decide ((0 : Int) < (ls : Int)) = true := decide_eq_true (by omega)
    clear hk
    go_wp2_with fail
    refine bodyPost_ret (v := .tuple #[.int .u64 0, .bool false]) (by simp [results, Try.results66, go_sem]) rfl ⟨⟨0, rfl, fun x h => by cases h⟩, HBB.out⟩
  · have dl : decide ((0 : Int) < (ls : Int)) = false := decide_eq_false (by omega)
    by_cases hk1 : k = 1
    · subst hk1
      clear hk
      have hidx : ∀ X : World, X.heap[W.heap.size]? = some (.cells #[.string cFalse, .string cTrue] 9 (0, 0)) → Calls Try.prog 69 #[.slice (some ⟨W.heap.size, 0, none⟩) 2 2, .string d.text] X fun e w' => e = .returned (.int .i64 (Lib.idxOfS [cFalse, cTrue] d.text)) ∧ w' = X := fun X hX =>
        Try.slices_Index_string W.heap.size 0 2 2 [cFalse, cTrue] d.text X (by decide) (by decide) (fun j hj => by
          rw [Nat.zero_add, blk_cell hX]
          match j, hj with
          | 0, _ => rfl
          | 1, _ => rfl
          | j + 2, h => exact absurd h (by simp))
      have hv : val = if d.kind = 1 then (if eqS d.text cTrue = true then some 1 else if eqS d.text cFalse = true then some 0 else none) else none := by rw [HVAL.out, if_neg hls, if_pos rfl]
      have HIDX := Lib.hid hidx
      have HV := Lib.hid hv
      have hf := false_eqS d.text
      have ht := true_eqS d.text
      have hx := idxOfS_ix [cFalse, cTrue] d.text
      clear hidx hv HVAL HRR e1
      obtain ⟨x, hxe⟩ : ∃ x, x = Lib.idxOfS [cFalse, cTrue] d.text := ⟨_, rfl⟩
      rw [← hxe] at HIDX hx
      clear hxe
      by_cases hd1 : d.kind = 1
      · have dd : (d.kind == 1) = true := by rw [hd1]; rfl
        cases hb1 : eqS d.text cFalse with
        | true =>
          have hnT : eqS d.text cTrue = false := by
            have := (eqS_iff _ _).1 hb1
            rw [this]; rfl
          rw [hb1] at hf
          rw [hnT] at ht
          have hx0 : x = 0 := by
            have : firstIx [cFalse, cTrue].length (fun i => eqS (([cFalse, cTrue][i]?).getD ⟨#[]⟩) d.text) = some 0 := firstIx_some (by decide) (by rw [(eqS_iff _ _).1 hb1]; rfl) (fun k hk => absurd hk (by omega))
            rw [hx, this]; rfl
          have hv2 : val = some 0 := by rw [HV.out, if_pos hd1, if_neg (by rw [hnT]; simp), if_pos hb1]
          subst hv2 hx0
          clear hx HV
          go_upto_region 4 with (fail)
          refine wp_region_eff [(0, .slice (some ⟨W.heap.size, 0, none⟩) 2 2), (3, .int .i64 (0 : Int)), (4, .int .i64 (max (0 : Int) 0)), (5, .int .u64 (IntKind.u64.wrap (max (0 : Int) 0)))] (fun w' => ∃ X' : BelowOf W, w' = X'.val) (fun q w' => Below W.heap.size W w' ∧ (match q with
            | 0 => w'.heap.size = W.heap.size
            | _ => w'.heap[W.heap.size]? = some (.cells #[.string cFalse, .string cTrue] 9 (0, 0)))) ?afA (by as_aux_lemma => kernel_rfl) (by as_aux_lemma => kernel_rfl) ?hCA ?hD0A ?hwalkA ?HA ?hEA ?hendA
          case hwalkA =>
            simp only [effL, List.lookup, Nat.reduceBEq, Nat.reduceAdd]
            have hX := BelowOf.cell W
            (repeat (go_big_quiet_step (fail)))
            refine wpQuiet_nil ?_
            rfl
          case hCA =>
            intro q w' h
            exact ⟨⟨w', h.1⟩, rfl⟩
          case hD0A => exact ⟨⟨rfl, rfl, rfl, Nat.le_refl _, fun _ _ => rfl⟩, rfl⟩
          case hEA =>
            intro s v h
            simp only [List.mem_cons, List.not_mem_nil, or_false, Prod.mk.injEq] at h
            rcases h with h | h | h | h <;> rw [h.1] <;> decide
          case HA =>
            refine { plain := plain_all (offs := []) (by as_aux_lemma => kernel_rfl) (fun j o h => by cases h), eff := ?effA, path := ?pathA, inj := ?injA, find := ?findA, ord := (by as_aux_lemma => kernel_rfl) }
            case effA =>
              intro q s v h
              rcases q with _ | _ | _ | _ | q
              · obtain ⟨rfl, rfl⟩ := Prod.mk.inj (Option.some.inj h)
                refine ⟨rfl, _, rfl, .inl rfl, [], (by as_aux_lemma => kernel_rfl), fun a w K Q' hT hD hK => ?_⟩
                have hz : w.heap.size = W.heap.size := hD.2
                refine val_wp _ (w' := w.alloc (Obj.cells #[.string cFalse, .string cTrue] 9)) ?_ (hK _ ⟨hD.1.alloc hD.1.size _, ?_⟩)
                · rw [← hz]
                  go_simp
                  rfl
                · rw [← hz]; exact blk_new w _
              · obtain ⟨rfl, rfl⟩ := Prod.mk.inj (Option.some.inj h)
                refine ⟨rfl, _, rfl, .inl rfl, [17, 19], (by as_aux_lemma => kernel_rfl), fun a w K Q' hT hD hK => ?_⟩
                have e1 : a.tmps[17]?.getD undef = .slice (some ⟨W.heap.size, 0, none⟩) 2 2 := by rw [← Array.getD_eq_getD_getElem?]; exact hT 17 (by simp)
                have e2 : a.tmps[19]?.getD undef = .string d.text := by rw [← Array.getD_eq_getD_getElem?]; exact hT 19 (by simp)
                refine call_wp2 69 #[.slice (some ⟨W.heap.size, 0, none⟩) 2 2, .string d.text] (by go_simp) _ (fun w' => w' = w) (HIDX.out w hD.2) (fun w' hs => hK w' (by rw [hs]; exact hD))
              · obtain ⟨rfl, rfl⟩ := Prod.mk.inj (Option.some.inj h)
                refine ⟨rfl, _, rfl, .inl rfl, [20], (by as_aux_lemma => kernel_rfl), fun a w K Q' hT hD hK => ?_⟩
                have e1 : a.tmps[20]?.getD undef = .int .i64 (0 : Int) := by rw [← Array.getD_eq_getD_getElem?]; exact hT 20 (by simp)
                exact val_wp _ (w' := w) (by go_simp) (hK _ hD)
              · obtain ⟨rfl, rfl⟩ := Prod.mk.inj (Option.some.inj h)
                refine ⟨rfl, _, rfl, .inl rfl, [21], (by as_aux_lemma => kernel_rfl), fun a w K Q' hT hD hK => ?_⟩
                have e1 : a.tmps[21]?.getD undef = .int .i64 (max (0 : Int) 0) := by rw [← Array.getD_eq_getD_getElem?]; exact hT 21 (by simp)
                exact val_wp _ (w' := w) (by go_simp) (hK _ hD)
              · cases h
            case pathA =>
              intro q s v s' v' h h'
              rcases q with _ | _ | _ | _ | q
              · obtain ⟨rfl, rfl⟩ := Prod.mk.inj (Option.some.inj h)
                obtain ⟨rfl, rfl⟩ := Prod.mk.inj (Option.some.inj h')
                exact ⟨[0], by simp, (by as_aux_lemma => kernel_rfl)⟩
              · obtain ⟨rfl, rfl⟩ := Prod.mk.inj (Option.some.inj h)
                obtain ⟨rfl, rfl⟩ := Prod.mk.inj (Option.some.inj h')
                exact ⟨[3], by simp, (by as_aux_lemma => kernel_rfl)⟩
              · obtain ⟨rfl, rfl⟩ := Prod.mk.inj (Option.some.inj h)
                obtain ⟨rfl, rfl⟩ := Prod.mk.inj (Option.some.inj h')
                exact ⟨[4], by simp, (by as_aux_lemma => kernel_rfl)⟩
              · cases h'
              · cases h
            case injA =>
              intro q q' s v v' h h'
              rcases q with _ | _ | _ | _ | q <;> rcases q' with _ | _ | _ | _ | q' <;> first | rfl | (cases h; done) | (cases h'; done) | (have i1 := (Prod.mk.inj (Option.some.inj h)).1; have i2 := (Prod.mk.inj (Option.some.inj h')).1; omega)
            case findA =>
              intro s v h
              simp only [List.lookup] at h
              by_cases h1 : s = 0
              · subst h1; exact ⟨0, by simpa using h⟩
              · by_cases h2 : s = 3
                · subst h2; exact ⟨1, by simpa using h⟩
                · by_cases h3 : s = 4
                  · subst h3; exact ⟨2, by simpa using h⟩
                  · by_cases h4 : s = 5
                    · subst h4; exact ⟨3, by simpa using h⟩
                    · simp only [List.lookup, beq_false_of_ne h1, beq_false_of_ne h2, beq_false_of_ne h3, beq_false_of_ne h4] at h; cases h
          intro w11 hD
          have HB11 := Lib.hid (HBB.out.trans (hD.1.mono HBB.out.size))
          clear hD
          go_wp2_with fail
          refine bodyPost_ret (v := .tuple #[.int .u64 (IntKind.u64.wrap (max 0 0)), .bool true]) (by simp [results, Try.results66, go_sem]) rfl ⟨⟨_, rfl, fun y h => by rw [← Option.some.inj h]; rfl⟩, HB11.out⟩
        | false =>
          rw [hb1] at hf
          cases hb2 : eqS d.text cTrue with
          | true =>
            rw [hb2] at ht
            have hx0 : x = 1 := by
              have : firstIx [cFalse, cTrue].length (fun i => eqS (([cFalse, cTrue][i]?).getD ⟨#[]⟩) d.text) = some 1 := firstIx_some (by decide) (by rw [(eqS_iff _ _).1 hb2]; rfl) (fun k hk => by
                obtain rfl : k = 0 := by omega
                rw [(eqS_iff _ _).1 hb2]; rfl)
              rw [hx, this]; rfl
            have hv2 : val = some 1 := by rw [HV.out, if_pos hd1, if_pos hb2]
            subst hv2 hx0
            clear hx HV
            go_upto_region 4 with (fail)
            refine wp_region_eff [(0, .slice (some ⟨W.heap.size, 0, none⟩) 2 2), (3, .int .i64 (1 : Int)), (4, .int .i64 (max (1 : Int) 0)), (5, .int .u64 (IntKind.u64.wrap (max (1 : Int) 0)))] (fun w' => ∃ X' : BelowOf W, w' = X'.val) (fun q w' => Below W.heap.size W w' ∧ (match q with
              | 0 => w'.heap.size = W.heap.size
              | _ => w'.heap[W.heap.size]? = some (.cells #[.string cFalse, .string cTrue] 9 (0, 0)))) ?afC (by as_aux_lemma => kernel_rfl) (by as_aux_lemma => kernel_rfl) ?hCC ?hD0C ?hwalkC ?HC ?hEC ?hendC
            case hwalkC =>
              simp only [effL, List.lookup, Nat.reduceBEq, Nat.reduceAdd]
              have hX := BelowOf.cell W
              (repeat (go_big_quiet_step (fail)))
              refine wpQuiet_nil ?_
              rfl
            case hCC =>
              intro q w' h
              exact ⟨⟨w', h.1⟩, rfl⟩
            case hD0C => exact ⟨⟨rfl, rfl, rfl, Nat.le_refl _, fun _ _ => rfl⟩, rfl⟩
            case hEC =>
              intro s v h
              simp only [List.mem_cons, List.not_mem_nil, or_false, Prod.mk.injEq] at h
              rcases h with h | h | h | h <;> rw [h.1] <;> decide
            case HC =>
              refine { plain := plain_all (offs := []) (by as_aux_lemma => kernel_rfl) (fun j o h => by cases h), eff := ?effC, path := ?pathC, inj := ?injC, find := ?findC, ord := (by as_aux_lemma => kernel_rfl) }
              case effC =>
                intro q s v h
                rcases q with _ | _ | _ | _ | q
                · obtain ⟨rfl, rfl⟩ := Prod.mk.inj (Option.some.inj h)
                  refine ⟨rfl, _, rfl, .inl rfl, [], (by as_aux_lemma => kernel_rfl), fun a w K Q' hT hD hK => ?_⟩
                  have hz : w.heap.size = W.heap.size := hD.2
                  refine val_wp _ (w' := w.alloc (Obj.cells #[.string cFalse, .string cTrue] 9)) ?_ (hK _ ⟨hD.1.alloc hD.1.size _, ?_⟩)
                  · rw [← hz]
                    go_simp
                    rfl
                  · rw [← hz]; exact blk_new w _
                · obtain ⟨rfl, rfl⟩ := Prod.mk.inj (Option.some.inj h)
                  refine ⟨rfl, _, rfl, .inl rfl, [17, 19], (by as_aux_lemma => kernel_rfl), fun a w K Q' hT hD hK => ?_⟩
                  have e1 : a.tmps[17]?.getD undef = .slice (some ⟨W.heap.size, 0, none⟩) 2 2 := by rw [← Array.getD_eq_getD_getElem?]; exact hT 17 (by simp)
                  have e2 : a.tmps[19]?.getD undef = .string d.text := by rw [← Array.getD_eq_getD_getElem?]; exact hT 19 (by simp)
                  refine call_wp2 69 #[.slice (some ⟨W.heap.size, 0, none⟩) 2 2, .string d.text] (by go_simp) _ (fun w' => w' = w) (HIDX.out w hD.2) (fun w' hs => hK w' (by rw [hs]; exact hD))
                · obtain ⟨rfl, rfl⟩ := Prod.mk.inj (Option.some.inj h)
                  refine ⟨rfl, _, rfl, .inl rfl, [20], (by as_aux_lemma => kernel_rfl), fun a w K Q' hT hD hK => ?_⟩
                  have e1 : a.tmps[20]?.getD undef = .int .i64 (1 : Int) := by rw [← Array.getD_eq_getD_getElem?]; exact hT 20 (by simp)
                  exact val_wp _ (w' := w) (by go_simp) (hK _ hD)
                · obtain ⟨rfl, rfl⟩ := Prod.mk.inj (Option.some.inj h)
                  refine ⟨rfl, _, rfl, .inl rfl, [21], (by as_aux_lemma => kernel_rfl), fun a w K Q' hT hD hK => ?_⟩
                  have e1 : a.tmps[21]?.getD undef = .int .i64 (max (1 : Int) 0) := by rw [← Array.getD_eq_getD_getElem?]; exact hT 21 (by simp)
                  exact val_wp _ (w' := w) (by go_simp) (hK _ hD)
                · cases h
              case pathC =>
                intro q s v s' v' h h'
                rcases q with _ | _ | _ | _ | q
                · obtain ⟨rfl, rfl⟩ := Prod.mk.inj (Option.some.inj h)
                  obtain ⟨rfl, rfl⟩ := Prod.mk.inj (Option.some.inj h')
                  exact ⟨[0], by simp, (by as_aux_lemma => kernel_rfl)⟩
                · obtain ⟨rfl, rfl⟩ := Prod.mk.inj (Option.some.inj h)
                  obtain ⟨rfl, rfl⟩ := Prod.mk.inj (Option.some.inj h')
                  exact ⟨[3], by simp, (by as_aux_lemma => kernel_rfl)⟩
                · obtain ⟨rfl, rfl⟩ := Prod.mk.inj (Option.some.inj h)
                  obtain ⟨rfl, rfl⟩ := Prod.mk.inj (Option.some.inj h')
                  exact ⟨[4], by simp, (by as_aux_lemma => kernel_rfl)⟩
                · cases h'
                · cases h
              case injC =>
                intro q q' s v v' h h'
                rcases q with _ | _ | _ | _ | q <;> rcases q' with _ | _ | _ | _ | q' <;> first | rfl | (cases h; done) | (cases h'; done) | (have i1 := (Prod.mk.inj (Option.some.inj h)).1; have i2 := (Prod.mk.inj (Option.some.inj h')).1; omega)
              case findC =>
                intro s v h
                simp only [List.lookup] at h
                by_cases h1 : s = 0
                · subst h1; exact ⟨0, by simpa using h⟩
                · by_cases h2 : s = 3
                  · subst h2; exact ⟨1, by simpa using h⟩
                  · by_cases h3 : s = 4
                    · subst h3; exact ⟨2, by simpa using h⟩
                    · by_cases h4 : s = 5
                      · subst h4; exact ⟨3, by simpa using h⟩
                      · simp only [List.lookup, beq_false_of_ne h1, beq_false_of_ne h2, beq_false_of_ne h3, beq_false_of_ne h4] at h; cases h
            intro w11 hD
            have HB11 := Lib.hid (HBB.out.trans (hD.1.mono HBB.out.size))
            clear hD
            go_wp2_with fail
            refine bodyPost_ret (v := .tuple #[.int .u64 (IntKind.u64.wrap (max 1 0)), .bool true]) (by simp [results, Try.results66, go_sem]) rfl ⟨⟨_, rfl, fun y h => by rw [← Option.some.inj h]; rfl⟩, HB11.out⟩
          | false =>
            rw [hb2] at ht
            have hv2 : val = none := by rw [HV.out, if_pos hd1, if_neg (by rw [hb2]; simp), if_neg (by rw [hb1]; simp)]
            subst hv2
            clear hx HV
            go_upto_region 4 with (fail)
            refine wp_region_eff [(0, .slice (some ⟨W.heap.size, 0, none⟩) 2 2), (3, .int .i64 x), (4, .int .i64 (max x 0)), (5, .int .u64 (IntKind.u64.wrap (max x 0)))] (fun w' => ∃ X' : BelowOf W, w' = X'.val) (fun q w' => Below W.heap.size W w' ∧ (match q with
              | 0 => w'.heap.size = W.heap.size
              | _ => w'.heap[W.heap.size]? = some (.cells #[.string cFalse, .string cTrue] 9 (0, 0)))) ?afD (by as_aux_lemma => kernel_rfl) (by as_aux_lemma => kernel_rfl) ?hCD ?hD0D ?hwalkD ?HD ?hED ?hendD
            case hwalkD =>
              simp only [effL, List.lookup, Nat.reduceBEq, Nat.reduceAdd]
              have hX := BelowOf.cell W
              (repeat (go_big_quiet_step (fail)))
              refine wpQuiet_nil ?_
              rfl
            case hCD =>
              intro q w' h
              exact ⟨⟨w', h.1⟩, rfl⟩
            case hD0D => exact ⟨⟨rfl, rfl, rfl, Nat.le_refl _, fun _ _ => rfl⟩, rfl⟩
            case hED =>
              intro s v h
              simp only [List.mem_cons, List.not_mem_nil, or_false, Prod.mk.injEq] at h
              rcases h with h | h | h | h <;> rw [h.1] <;> decide
            case HD =>
              refine { plain := plain_all (offs := []) (by as_aux_lemma => kernel_rfl) (fun j o h => by cases h), eff := ?effD, path := ?pathD, inj := ?injD, find := ?findD, ord := (by as_aux_lemma => kernel_rfl) }
              case effD =>
                intro q s v h
                rcases q with _ | _ | _ | _ | q
                · obtain ⟨rfl, rfl⟩ := Prod.mk.inj (Option.some.inj h)
                  refine ⟨rfl, _, rfl, .inl rfl, [], (by as_aux_lemma => kernel_rfl), fun a w K Q' hT hD hK => ?_⟩
                  have hz : w.heap.size = W.heap.size := hD.2
                  refine val_wp _ (w' := w.alloc (Obj.cells #[.string cFalse, .string cTrue] 9)) ?_ (hK _ ⟨hD.1.alloc hD.1.size _, ?_⟩)
                  · rw [← hz]
                    go_simp
                    rfl
                  · rw [← hz]; exact blk_new w _
                · obtain ⟨rfl, rfl⟩ := Prod.mk.inj (Option.some.inj h)
                  refine ⟨rfl, _, rfl, .inl rfl, [17, 19], (by as_aux_lemma => kernel_rfl), fun a w K Q' hT hD hK => ?_⟩
                  have e1 : a.tmps[17]?.getD undef = .slice (some ⟨W.heap.size, 0, none⟩) 2 2 := by rw [← Array.getD_eq_getD_getElem?]; exact hT 17 (by simp)
                  have e2 : a.tmps[19]?.getD undef = .string d.text := by rw [← Array.getD_eq_getD_getElem?]; exact hT 19 (by simp)
                  refine call_wp2 69 #[.slice (some ⟨W.heap.size, 0, none⟩) 2 2, .string d.text] (by go_simp) _ (fun w' => w' = w) (HIDX.out w hD.2) (fun w' hs => hK w' (by rw [hs]; exact hD))
                · obtain ⟨rfl, rfl⟩ := Prod.mk.inj (Option.some.inj h)
                  refine ⟨rfl, _, rfl, .inl rfl, [20], (by as_aux_lemma => kernel_rfl), fun a w K Q' hT hD hK => ?_⟩
                  have e1 : a.tmps[20]?.getD undef = .int .i64 x := by rw [← Array.getD_eq_getD_getElem?]; exact hT 20 (by simp)
                  exact val_wp _ (w' := w) (by go_simp) (hK _ hD)
                · obtain ⟨rfl, rfl⟩ := Prod.mk.inj (Option.some.inj h)
                  refine ⟨rfl, _, rfl, .inl rfl, [21], (by as_aux_lemma => kernel_rfl), fun a w K Q' hT hD hK => ?_⟩
                  have e1 : a.tmps[21]?.getD undef = .int .i64 (max x 0) := by rw [← Array.getD_eq_getD_getElem?]; exact hT 21 (by simp)
                  exact val_wp _ (w' := w) (by go_simp) (hK _ hD)
                · cases h
              case pathD =>
                intro q s v s' v' h h'
                rcases q with _ | _ | _ | _ | q
                · obtain ⟨rfl, rfl⟩ := Prod.mk.inj (Option.some.inj h)
                  obtain ⟨rfl, rfl⟩ := Prod.mk.inj (Option.some.inj h')
                  exact ⟨[0], by simp, (by as_aux_lemma => kernel_rfl)⟩
                · obtain ⟨rfl, rfl⟩ := Prod.mk.inj (Option.some.inj h)
                  obtain ⟨rfl, rfl⟩ := Prod.mk.inj (Option.some.inj h')
                  exact ⟨[3], by simp, (by as_aux_lemma => kernel_rfl)⟩
                · obtain ⟨rfl, rfl⟩ := Prod.mk.inj (Option.some.inj h)
                  obtain ⟨rfl, rfl⟩ := Prod.mk.inj (Option.some.inj h')
                  exact ⟨[4], by simp, (by as_aux_lemma => kernel_rfl)⟩
                · cases h'
                · cases h
              case injD =>
                intro q q' s v v' h h'
                rcases q with _ | _ | _ | _ | q <;> rcases q' with _ | _ | _ | _ | q' <;> first | rfl | (cases h; done) | (cases h'; done) | (have i1 := (Prod.mk.inj (Option.some.inj h)).1; have i2 := (Prod.mk.inj (Option.some.inj h')).1; omega)
              case findD =>
                intro s v h
                simp only [List.lookup] at h
                by_cases h1 : s = 0
                · subst h1; exact ⟨0, by simpa using h⟩
                · by_cases h2 : s = 3
                  · subst h2; exact ⟨1, by simpa using h⟩
                  · by_cases h3 : s = 4
                    · subst h3; exact ⟨2, by simpa using h⟩
                    · by_cases h4 : s = 5
                      · subst h4; exact ⟨3, by simpa using h⟩
                      · simp only [List.lookup, beq_false_of_ne h1, beq_false_of_ne h2, beq_false_of_ne h3, beq_false_of_ne h4] at h; cases h
            intro w11 hD
            have HB11 := Lib.hid (HBB.out.trans (hD.1.mono HBB.out.size))
            clear hD
            go_wp2_with fail
            refine bodyPost_ret (v := .tuple #[.int .u64 (IntKind.u64.wrap (max x 0)), .bool false]) (by simp [results, Try.results66, go_sem]) rfl ⟨⟨_, rfl, fun y h => by cases h⟩, HB11.out⟩
      · have dd : (d.kind == 1) = false := beq_false_of_ne hd1
        have hv2 : val = none := by rw [HV.out, if_neg hd1]
        subst hv2
        clear hx HV hf ht
        go_upto_region 4 with (fail)
        refine wp_region_eff [(0, .slice (some ⟨W.heap.size, 0, none⟩) 2 2), (3, .int .i64 x), (4, .int .i64 (max x 0)), (5, .int .u64 (IntKind.u64.wrap (max x 0)))] (fun w' => ∃ X' : BelowOf W, w' = X'.val) (fun q w' => Below W.heap.size W w' ∧ (match q with
          | 0 => w'.heap.size = W.heap.size
          | _ => w'.heap[W.heap.size]? = some (.cells #[.string cFalse, .string cTrue] 9 (0, 0)))) ?afB (by as_aux_lemma => kernel_rfl) (by as_aux_lemma => kernel_rfl) ?hCB ?hD0B ?hwalkB ?HB ?hEB ?hendB
        case hwalkB =>
          simp only [effL, List.lookup, Nat.reduceBEq, Nat.reduceAdd]
          have hX := BelowOf.cell W
          (repeat (go_big_quiet_step (fail)))
          refine wpQuiet_nil ?_
          rfl
        case hCB =>
          intro q w' h
          exact ⟨⟨w', h.1⟩, rfl⟩
        case hD0B => exact ⟨⟨rfl, rfl, rfl, Nat.le_refl _, fun _ _ => rfl⟩, rfl⟩
        case hEB =>
          intro s v h
          simp only [List.mem_cons, List.not_mem_nil, or_false, Prod.mk.injEq] at h
          rcases h with h | h | h | h <;> rw [h.1] <;> decide
        case HB =>
          refine { plain := plain_all (offs := []) (by as_aux_lemma => kernel_rfl) (fun j o h => by cases h), eff := ?effB, path := ?pathB, inj := ?injB, find := ?findB, ord := (by as_aux_lemma => kernel_rfl) }
          case effB =>
            intro q s v h
            rcases q with _ | _ | _ | _ | q
            · obtain ⟨rfl, rfl⟩ := Prod.mk.inj (Option.some.inj h)
              refine ⟨rfl, _, rfl, .inl rfl, [], (by as_aux_lemma => kernel_rfl), fun a w K Q' hT hD hK => ?_⟩
              have hz : w.heap.size = W.heap.size := hD.2
              refine val_wp _ (w' := w.alloc (Obj.cells #[.string cFalse, .string cTrue] 9)) ?_ (hK _ ⟨hD.1.alloc hD.1.size _, ?_⟩)
              · rw [← hz]
                go_simp
                rfl
              · rw [← hz]; exact blk_new w _
            · obtain ⟨rfl, rfl⟩ := Prod.mk.inj (Option.some.inj h)
              refine ⟨rfl, _, rfl, .inl rfl, [17, 19], (by as_aux_lemma => kernel_rfl), fun a w K Q' hT hD hK => ?_⟩
              have e1 : a.tmps[17]?.getD undef = .slice (some ⟨W.heap.size, 0, none⟩) 2 2 := by rw [← Array.getD_eq_getD_getElem?]; exact hT 17 (by simp)
              have e2 : a.tmps[19]?.getD undef = .string d.text := by rw [← Array.getD_eq_getD_getElem?]; exact hT 19 (by simp)
              refine call_wp2 69 #[.slice (some ⟨W.heap.size, 0, none⟩) 2 2, .string d.text] (by go_simp) _ (fun w' => w' = w) (HIDX.out w hD.2) (fun w' hs => hK w' (by rw [hs]; exact hD))
            · obtain ⟨rfl, rfl⟩ := Prod.mk.inj (Option.some.inj h)
              refine ⟨rfl, _, rfl, .inl rfl, [20], (by as_aux_lemma => kernel_rfl), fun a w K Q' hT hD hK => ?_⟩
              have e1 : a.tmps[20]?.getD undef = .int .i64 x := by rw [← Array.getD_eq_getD_getElem?]; exact hT 20 (by simp)
              exact val_wp _ (w' := w) (by go_simp) (hK _ hD)
            · obtain ⟨rfl, rfl⟩ := Prod.mk.inj (Option.some.inj h)
              refine ⟨rfl, _, rfl, .inl rfl, [21], (by as_aux_lemma => kernel_rfl), fun a w K Q' hT hD hK => ?_⟩
              have e1 : a.tmps[21]?.getD undef = .int .i64 (max x 0) := by rw [← Array.getD_eq_getD_getElem?]; exact hT 21 (by simp)
              exact val_wp _ (w' := w) (by go_simp) (hK _ hD)
            · cases h
          case pathB =>
            intro q s v s' v' h h'
            rcases q with _ | _ | _ | _ | q
            · obtain ⟨rfl, rfl⟩ := Prod.mk.inj (Option.some.inj h)
              obtain ⟨rfl, rfl⟩ := Prod.mk.inj (Option.some.inj h')
              exact ⟨[0], by simp, (by as_aux_lemma => kernel_rfl)⟩
            · obtain ⟨rfl, rfl⟩ := Prod.mk.inj (Option.some.inj h)
              obtain ⟨rfl, rfl⟩ := Prod.mk.inj (Option.some.inj h')
              exact ⟨[3], by simp, (by as_aux_lemma => kernel_rfl)⟩
            · obtain ⟨rfl, rfl⟩ := Prod.mk.inj (Option.some.inj h)
              obtain ⟨rfl, rfl⟩ := Prod.mk.inj (Option.some.inj h')
              exact ⟨[4], by simp, (by as_aux_lemma => kernel_rfl)⟩
            · cases h'
            · cases h
          case injB =>
            intro q q' s v v' h h'
            rcases q with _ | _ | _ | _ | q <;> rcases q' with _ | _ | _ | _ | q' <;> first | rfl | (cases h; done) | (cases h'; done) | (have i1 := (Prod.mk.inj (Option.some.inj h)).1; have i2 := (Prod.mk.inj (Option.some.inj h')).1; omega)
          case findB =>
            intro s v h
            simp only [List.lookup] at h
            by_cases h1 : s = 0
            · subst h1; exact ⟨0, by simpa using h⟩
            · by_cases h2 : s = 3
              · subst h2; exact ⟨1, by simpa using h⟩
              · by_cases h3 : s = 4
                · subst h3; exact ⟨2, by simpa using h⟩
                · by_cases h4 : s = 5
                  · subst h4; exact ⟨3, by simpa using h⟩
                  · simp only [List.lookup, beq_false_of_ne h1, beq_false_of_ne h2, beq_false_of_ne h3, beq_false_of_ne h4] at h; cases h
        intro w11 hD
        have HB11 := Lib.hid (HBB.out.trans (hD.1.mono HBB.out.size))
        clear hD
        go_wp2_with fail
        refine bodyPost_ret (v := .tuple #[.int .u64 (IntKind.u64.wrap (max x 0)), .bool false]) (by simp [results, Try.results66, go_sem]) rfl ⟨⟨_, rfl, fun y h => by cases h⟩, HB11.out⟩
    · have dk1 : decide (k = 1) = false := decide_eq_false hk1
      by_cases hk10 : k = 10
      · have hrl := hk hk10
        subst hk10
        have hv : val = if d.kind = 1 then Option.map (fun (i : Nat) => (i : Int)) (itemIx r rf d.text) else none := by rw [HVAL.out, if_neg hls, if_neg (by decide), if_pos rfl]
        clear hk dk1
        have hrI : (rf : Int) < (r.enums.length : Int) := by omega
        obtain ⟨q, a, c', rfl, hq, g0, g1, g2, g3⟩ := HRR.out.e rf hrl
        have hix := ixTok_calls (cx r rf).names (by have := HBD.out.n _ (cx_mem hrl); omega) a c' d.text (S + 1 + 1) W l3 d1 g3
        have hnn := HBD.out.n _ (cx_mem hrl)
        have hie : (firstIx (cx r rf).names.length fun k => eqS (((cx r rf).names[k]?).getD tok0).text d.text) = itemIx r rf d.text := rfl
        rw [hie] at hix
        have HIX := Lib.hid hix
        clear hix hie g0 g1
        obtain ⟨o, ho⟩ : ∃ o, itemIx r rf d.text = o := ⟨_, rfl⟩
        rw [ho] at HIX hv
        have HO : Hid (firstIx (cx r rf).names.length (fun k => eqS (((cx r rf).names[k]?).getD tok0).text d.text) = o) := Lib.hid ho
        have HNN := Lib.hid hnn
        clear ho hnn
        generalize (cx r rf).names.length = nn at *
        have HV := Lib.hid hv
        clear hv HVAL
        go_wp2_with fail
        refine HIX.out.mono ?_
        rintro e w2 ⟨rfl, hB2⟩
        have x0 := (hB2.cell (p := ⟨S + 1 + 1, 0, none⟩) l3).trans d0
        have lx : S + 1 + 1 < w2.heap.size := Nat.lt_of_lt_of_le l3 hB2.size
        have HB2 := Lib.hid (HBB.out.trans (hB2.mono HBB.out.size))
        have hob : ∀ i, o = some i → (i : Int) ≤ 100000 := fun i hi => by
          have h1 := (firstIx_spec (HO.out.trans hi)).1
          have h2 := HNN.out
          omega
        clear hB2 HIX
        by_cases hd1 : d.kind = 1
        · have dd : decide (d.kind = 1) = true := decide_eq_true hd1
          cases o with
          | none =>
            have hv2 : val = none := by rw [HV.out, if_pos hd1]; rfl
            subst hv2
            clear hob
            rw [show ixV none = -1 from rfl]
            have hm : max (-1 : Int) 0 = 0 := rfl
            go_wp2_with fail
            refine bodyPost_ret (v := .tuple #[.int .u64 0, .bool false]) (by simp [results, Try.results66, go_sem, *]) rfl ⟨⟨0, rfl, fun x h => by cases h⟩, HB2.out⟩
          | some i =>
            have hv2 : val = some (i : Int) := by rw [HV.out, if_pos hd1]; rfl
            have hi := hob i rfl
            have hi0 : decide ((0 : Int) ≤ (i : Int)) = true := decide_eq_true (by omega)
            have hm : max (i : Int) 0 = (i : Int) := by omega
            have hw : IntKind.u64.wrap (i : Int) = (i : Int) := by rw [IntKind.wrap_u64]; omega
            subst hv2
            clear hob
            rw [show ixV (some i) = (i : Int) from rfl]
            go_wp2_with fail
            refine bodyPost_ret (v := .tuple #[.int .u64 (i : Int), .bool true]) (by simp [results, Try.results66, go_sem, *]) rfl ⟨⟨(i : Int), rfl, fun x h => Option.some.inj h⟩, HB2.out⟩
        · have dd : decide (d.kind = 1) = false := decide_eq_false hd1
          have hv2 : val = none := by rw [HV.out, if_neg hd1]
          subst hv2
          clear hob
          generalize ixV o = x at *
          go_wp2_with fail
          refine bodyPost_ret (v := .tuple #[.int .u64 (IntKind.u64.wrap (max x 0)), .bool false]) (by simp [results, Try.results66, go_sem]) rfl ⟨⟨_, rfl, fun x h => by cases h⟩, HB2.out⟩
      · have dk10 : decide (k = 10) = false := decide_eq_false hk10
        have hv : val = if d.kind = 2 then numOf d.text (kindSize k) (kindSign k) else none := by rw [HVAL.out, if_neg hls, if_neg hk1, if_neg hk10]
        clear hk
        by_cases hd2 : d.kind = 2
        · have dd : decide (d.kind = 2) = true := decide_eq_true hd2
          rw [if_pos hd2] at hv
          have HV := Lib.hid hv
          have hL := fun (X : World) => lexNumber_calls d.text (kindSize k) (kindSign k) X (by have := HD.out; omega)
          generalize numOf d.text (kindSize k) (kindSign k) = o at *
          clear hv HVAL
          cases o with
          | none =>
            have HL : ∀ X : World, Calls _ _ _ X fun e w' => e = .returned (.tuple #[.int .u64 0, .bool false]) ∧ Below X.heap.size X w' := hL
            clear hL
            go_upto_region 10 with (fail)
            (have hX := BelowOf.cell W; refine wp_region_below_lit (by kernel_rfl) (by kernel_rfl) ?_; (repeat (go_big_quiet_step (first | exact quietS (wireSize_calls _ _) | exact quietS (kindSign_calls _ _) | exact quietB (HL _)))); refine wpQuiet_nil ?_); intro wB hw'; obtain ⟨⟨wB', hB'⟩, hw''⟩ := hw'; have hB : Below (World.heap W).size W wB := (by rw [hw'']; exact hB'); clear hw'' hB' hX; clear wB'; have hzB := hB.size; obtain ⟨hcB, hfB⟩ := bcell hB
            go_wp2_with fail
            refine bodyPost_ret (v := .tuple #[.int .u64 0, .bool false]) (by simp [results, Try.results66, go_sem]) rfl ⟨⟨0, by rw [HV.out]; rfl, fun x h => by rw [HV.out] at h; cases h⟩, HBB.out.trans (hB.mono HBB.out.size)⟩
          | some x =>
            have HL : ∀ X : World, Calls _ _ _ X fun e w' => e = .returned (.tuple #[.int .u64 x, .bool true]) ∧ Below X.heap.size X w' := hL
            clear hL
            go_upto_region 10 with (fail)
            (have hX := BelowOf.cell W; refine wp_region_below_lit (by kernel_rfl) (by kernel_rfl) ?_; (repeat (go_big_quiet_step (first | exact quietS (wireSize_calls _ _) | exact quietS (kindSign_calls _ _) | exact quietB (HL _)))); refine wpQuiet_nil ?_); intro wB hw'; obtain ⟨⟨wB', hB'⟩, hw''⟩ := hw'; have hB : Below (World.heap W).size W wB := (by rw [hw'']; exact hB'); clear hw'' hB' hX; clear wB'; have hzB := hB.size; obtain ⟨hcB, hfB⟩ := bcell hB
            go_wp2_with fail
            refine bodyPost_ret (v := .tuple #[.int .u64 x, .bool true]) (by simp [results, Try.results66, go_sem]) rfl ⟨⟨x, by rw [HV.out]; rfl, fun y h => by rw [HV.out] at h; exact Option.some.inj h⟩, HBB.out.trans (hB.mono HBB.out.size)⟩
        · have dd : decide (d.kind = 2) = false := decide_eq_false hd2
          rw [if_neg hd2] at hv
          subst hv
          go_wp2_with fail
          refine bodyPost_ret (v := .tuple #[.int .u64 0, .bool false]) (by simp [results, Try.results66, go_sem]) rfl ⟨⟨0, rfl, fun x h => by cases h⟩, HBB.out⟩

end Go.Proofs.Ytgoaiokpnifhfaa
