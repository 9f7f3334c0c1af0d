/-
  Layer 3: a text's tokens.
-/
import Derived.Test.YtejpjclbeogajaaDoorTok2
import Derived.Test.YtejpjclbeogajaaDoorRunes
import Derived.Deep.AppendLies
namespace Go.Proofs.YtejpjclbeogajaaDoor
open Go.RowKit
set_option linter.unusedVariables false
set_option linter.unusedSimpArgs false

/-- the reader's next token -/
theorem token_calls (R : Nat) (s sg : ByteArray) (i : Nat) (w : World) (hs : s.size ≤ 100000) (hi : i ≤ s.size) (hsg : ∀ j, j < sg.size → bt sg j < 128) (hR : w.heap[R]? = some (rdrB s sg i)) :
    Calls Tryd.prog 73 #[.pointer (some ⟨R, 0, none⟩)] w (TokPost w R s sg i) := by
  by_cases h : i = s.size
  · exact (tok_end R s sg i w hs h hR).mono fun e w' h2 => tokPost_ok (oneB_end s sg i h) h2
  · have hlt : i < s.size := by omega
    cases hl : isLetter (bt s i) with
    | true => exact (tok_name R s sg i w hs hlt hl hR).mono fun e w' h2 => tokPost_ok (oneB_name s sg i hlt hl) h2
    | false => exact tok_rest R s sg i w hs hlt hl hsg hR

/-- tokens as cells -/
def tokCells (l : List Tok) : List Value := l.flatMap fun t => [.int .i64 t.kind, .string t.text, .int .i64 (t.pos : Int)]
theorem tokCells_len (l : List Tok) : (tokCells l).length = l.length * 3 := by
  induction l with
  | nil => rfl
  | cons a l ih => simp only [tokCells, List.flatMap_cons, List.length_append, List.length_cons, List.length_nil] at ih ⊢; omega

/-- what a call of Tokens comes to -/
def TokensPost (w : World) (o : Except (Int × Nat) (List Tok)) (e : Ending) (w' : World) : Prop :=
  Below w.heap.size w w' ∧
  match o with
  | .error (c, p) => e = .returned (.tuple #[.slice none 0 0, .agg #[.int .i64 c, .int .i64 (p : Int)]])
  | .ok l => ∃ v, e = .returned (.tuple #[v, .agg #[.int .i64 0, .int .i64 0]]) ∧ w'.ownsRow w.heap.size 103 3 v l.length (tokCells l)

theorem info_token : (Tryd.prog.info? 103).map (fun i => (i.zero, i.size, i.bytes)) = some (some (.agg #[.int .i64 0, .string ⟨#[]⟩, .int .i64 0]), 3, 32) := by kernel_rfl
def lenV : Value → Nat
  | .slice _ n _ => n
  | _ => 0

theorem news_three (w : World) (o : Obj) (a b c : Value) (T : TypeId) : ∀ j u, [a, b, c][j]? = some u → ((w.alloc o).alloc (.cells #[a, b, c] T)).cell? ((⟨w.heap.size + 1, 0, none⟩ : Addr).add j) = some u := by
  intro j u hu
  have e : w.heap.size + 1 = (w.alloc o).heap.size := by simp
  rw [Addr.add_lit, Nat.zero_add, e, blk_cell (blk_new (w.alloc o) _)]
  simpa using hu
theorem posOf_rdr {w : World} {R : Nat} {s sg : ByteArray} {j : Nat} (h : w.heap[R]? = some (rdrB s sg j)) : posOf w R = j := by
  have : w.cell? ⟨R, 1, none⟩ = some (.int .i64 j) := by rw [blk_cell h]; rfl
  simp [posOf, this, intOf]

/-- where Tokens stands -/
structure TkInv (w : World) (R : Nat) (s sg : ByteArray) (i : Nat) (v : Value) (acc : List Tok) (wr : World) : Prop where
  below : Below w.heap.size w wr
  res : wr.heap[w.heap.size]? = some (.cells #[.int .i64 0, .int .i64 0] 95 (0, 0))
  rdr : wr.heap[R]? = some (rdrB s sg i)
  own : wr.ownsRow (R + 1) 103 3 v acc.length (tokCells acc)
  len : lenV v = acc.length

theorem own_len {w : World} {base : Nat} {e : TypeId} {size : Nat} {v : Value} {n : Nat} {xs : List Value} (h : w.ownsRow base e size v n xs) : ∃ a c, v = .slice a n c := by
  rcases h.2 with ⟨h1, h2⟩ | ⟨g, cap, cur, h1, _⟩
  · exact ⟨none, 0, by rw [h1, h2]⟩
  · exact ⟨_, cap, h1⟩
theorem TkInv.run {w : World} {R : Nat} {s sg : ByteArray} {i j : Nat} {v : Value} {acc : List Tok} {wr w2 : World} (h : TkInv w R s sg i v acc wr) (hR : R = w.heap.size + 1) (hg : wr.grownBy w2 (some R)) (hr : w2.heap[R]? = some (rdrB s sg j)) : TkInv w R s sg j v acc w2 :=
  ⟨h.below.grown hg (by have := h.below.size; have := blk_lt h.rdr; omega) (fun k e => by cases e; omega), blk_grown h.res hg (by omega), hr, ownsRow_at h.own (fun g hg' => by
    have hl := h.own.lt g hg'
    exact hg.block g hl.2 (fun e => by cases e; omega)), h.len⟩

set_option maxHeartbeats 4000000 in
set_option maxRecDepth 100000 in
theorem tokens_calls (s sg : ByteArray) (w : World) (hs0 : s.size ≤ 140737488351232) (hsg : ∀ j, j < sg.size → bt sg j < 128) :
    Calls Tryd.prog 32 #[.string s, .string sg] w (TokensPost w (toks s sg)) := by
  by_cases hbig : 8192 < s.size
  · have HT := Lib.hid (show toks s sg = .error (16, 8192) by rw [toks, if_pos hbig])
    have hd : decide ((8192 : Int) < (s.size : Int)) = true := decide_eq_true (by omega)
    go_enter Tryd.func32, Tryd.ntmps32
    go_wp2_with fail
    refine bodyPost_ret (v := .tuple #[.slice none 0 0, .agg #[.int .i64 16, .int .i64 8192]]) (by simp [results, Tryd.results32, go_sem, *]) rfl ?_
    unfold TokensPost
    rw [HT.out]
    exact ⟨by (repeat' (first | (with_reducible exact Below.refl _ _) | (with_reducible assumption) | (with_reducible refine Below.alloc ?_ ?_ _) | (with_reducible refine Below.drew ?_) | (with_reducible refine Below.setCell ?_ ?_ _) | (with_reducible refine Below.trans ?_ (Below.mono (by assumption) ?_)) | go_size)), rfl⟩
  · have HT := Lib.hid (show toks s sg = toksF s sg 2048 0 by rw [toks, if_neg hbig])
    have hs : s.size ≤ 100000 := by omega
    have hbI : (s.size : Int) ≤ 8192 := by omega
    have hd0 : decide ((8192 : Int) < (s.size : Int)) = false := decide_eq_false (by omega)
    have HSG := Lib.hid hsg
    clear hsg
    go_enter Tryd.func32, Tryd.ntmps32
    go_wp2_with fail
    obtain ⟨R, hRd⟩ : ∃ R, R = w.heap.size + 1 := ⟨_, rfl⟩
    go_loopw [7] (fun v7 wr => ∃ (i : Nat) (acc : List Tok), acc.length ≤ 2048 ∧ i ≤ s.size ∧ Hid (toks s sg = pre acc (toksF s sg (2048 - acc.length) i)) ∧ TkInv w R s sg i v7 acc wr) (fun v7 _ => 2049 - lenV v7)
    case atStart =>
      refine ⟨0, [], by simp, by omega, ?_, ?_⟩
      · show toks s sg = _
        rw [HT.out]
        cases toksF s sg 2048 0 <;> rfl
      · refine ⟨by (repeat' (first | (with_reducible exact Below.refl _ _) | (with_reducible assumption) | (with_reducible refine Below.alloc ?_ ?_ _) | (with_reducible refine Below.drew ?_) | (with_reducible refine Below.setCell ?_ ?_ _) | (with_reducible refine Below.trans ?_ (Below.mono (by assumption) ?_)) | go_size)), blk_alloc (blk_new _ _) _, ?_, ?_, rfl⟩
        · rw [hRd]
          have := blk_new (w.alloc (Obj.cells #[Value.int .i64 0, Value.int .i64 0] 95)) (rdrB s sg 0)
          simp only [World.size_alloc] at this
          exact this
        · exact World.ownsRow_nil _ _ _ _
    case round =>
      rename World => wo
      obtain ⟨i, acc, hacc, hi, heq, hinv⟩ := hrel
      obtain ⟨av, cv, hu7⟩ := own_len hinv.own
      subst hu7
      obtain ⟨O, hO⟩ : ∃ O, O = w.heap.size := ⟨_, rfl⟩
      have hRO : R = O + 1 := by omega
      have HINV := Lib.hid hinv
      have HRD := Lib.hid hRd
      have HOD := Lib.hid hO
      rw [← hO, ← hRO]
      clear hinv hRd hO hRO
      go_wp2_with fail
      go_loopw [18] (fun _ wr2 => ∃ j : Nat, i ≤ j ∧ j ≤ s.size ∧ Hid (behind s j = behind s i) ∧ wo.grownBy wr2 (some R) ∧ wr2.heap[R]? = some (rdrB s sg j)) (fun _ wr2 => s.size - posOf wr2 R)
      case atStart => exact ⟨i, Nat.le_refl _, hi, rfl, World.grownBy.refl _ _, HINV.out.rdr⟩
      case round =>
        obtain ⟨j, hij, hjs, hbe, hg2, hr2⟩ := hrel
        have hsb := spanEnd_bd s isBlank j hjs
        have HSB := Lib.hid hsb
        have hbs := behind_span s j hjs
        have HBS := Lib.hid hbs
        clear hsb hbs
        go_wp2_with fail
        refine (while_calls 71 isBlank lexBlank_calls enters_blank R s sg j wr hs hjs hr2).mono ?_
        rintro e w2 ⟨rfl, hg3, hr3⟩
        obtain ⟨x, hx⟩ : ∃ x, x = spanEnd s isBlank j := ⟨_, rfl⟩
        rw [← hx] at hr3 ⊢
        have HX := Lib.hid hx
        have hjx : j ≤ x := by rw [hx]; exact HSB.out.1
        have hxs : x ≤ s.size := by rw [hx]; exact HSB.out.2.1
        clear hx
        by_cases hxj : x = j
        · have hcr := remark_calls R s sg x w2 hs hxs hr3
          have hg4 : wo.grownBy w2 (some R) := World.grownBy.trans hg2 hg3
          cases hrm : isRemark s x with
          | true =>
            have hre := behindN_dec s x hrm
            have hbr := behind_remark s x hrm
            have HRE := Lib.hid hre
            have HBR := Lib.hid hbr
            have HRM := Lib.hid hrm
            subst hxj
            clear hre hbr hrm
            go_wp2_with fail
            refine hcr.mono ?_
            rintro e w3 ⟨rfl, hg5, hr5⟩
            rw [HRM.out, if_pos rfl] at hr5
            rw [HRM.out]
            go_wp2_with fail
            have hps := posOf_rdr hr5
            have hps2 := posOf_rdr hr2
            rw [hps, hps2]
            have := HRE.out
            exact ⟨⟨remarkEnd s x, by omega, this.2.2, HBR.out.symm.trans hbe.out, World.grownBy.trans hg4 hg5, hr5⟩, by omega⟩
          | false =>
            have hstop : behind s x = x := behind_stop s x (by
              rcases HSB.out.2.2.2 with h | h
              · have hxe : x = s.size := by rw [HX.out]; exact h
                rw [hxe, bt_out s s.size (by omega)]; rfl
              · rw [HX.out]; exact h) hrm
            have hbx : behind s i = x := by rw [← hbe.out, ← hxj]; exact hstop
            have HBX := Lib.hid hbx
            have HRM := Lib.hid hrm
            subst hxj
            clear hrm hstop hbx
            go_wp2_with fail
            refine hcr.mono ?_
            rintro e w3 ⟨rfl, hg5, hr5⟩
            rw [HRM.out, if_neg (by simp)] at hr5
            rw [HRM.out]
            have hI3 := HINV.out.run HRD.out (World.grownBy.trans hg4 hg5) hr5
            have hOR : O ≠ R := by have := HRD.out; have := HOD.out; omega
            have HI3 := Lib.hid hI3
            clear hI3 hg2 hg3 hg4 hg5 hr2 hr3 HX HSB HBS hcr HINV
            by_cases hfull : 2048 ≤ acc.length
            · have hfd : (2048 : Int) ≤ (acc.length : Int) := by omega
              have HO2 := Lib.hid (show toks s sg = .error (16, x) by
                rw [heq.out, show 2048 - acc.length = 0 by omega, toksF_many, HBX.out]; rfl)
              have c1 : w3.cell? ⟨R, 1, none⟩ = some (.int .i64 x) := by rw [blk_cell HI3.out.rdr]; rfl
              have hres := HI3.out.res
              rw [← HOD.out] at hres
              have o0 : w3.cell? ⟨O, 0, none⟩ = some (.int .i64 0) := by rw [blk_cell hres]; rfl
              have o1 : w3.cell? ⟨O, 1, none⟩ = some (.int .i64 0) := by rw [blk_cell hres]; rfl
              have q0 : w3.frozen? ⟨O, 0, none⟩ = false := blk_frozen hres _
              have q1 : w3.frozen? ⟨O, 1, none⟩ = false := blk_frozen hres _
              clear hres
              go_wp2_with fail
              go_region
              all_goals go_wp2_with fail
              all_goals refine bodyPost_ret (v := .tuple #[.slice none 0 0, .agg #[.int .i64 16, .int .i64 (x : Int)]]) (by simp [results, Tryd.results32, go_sem, *]) rfl ?_
              all_goals have hBw := HI3.out.below
              all_goals have hOw : w.heap.size ≤ O := by rw [HOD.out]; exact Nat.le_refl _
              all_goals unfold TokensPost
              all_goals rw [HO2.out]
              all_goals exact ⟨by (repeat' (first | (with_reducible exact Below.refl _ _) | (with_reducible assumption) | (with_reducible refine Below.alloc ?_ ?_ _) | (with_reducible refine Below.drew ?_) | (with_reducible refine Below.setCell ?_ ?_ _) | (with_reducible refine Below.trans ?_ (Below.mono (by assumption) ?_)) | go_size)), rfl⟩
            · have hfd : (acc.length : Int) < 2048 := by omega
              have hct := token_calls R s sg x w3 hs hjs HSG.out HI3.out.rdr
              unfold TokPost at hct
              cases hone : oneB s sg x with
              | none =>
                rw [hone] at hct
                have HO2 := Lib.hid (show toks s sg = .error (10, x) by
                  rw [heq.out, show 2048 - acc.length = (2047 - acc.length) + 1 by omega, toksF_bad s sg _ _ (by rw [HBX.out]; exact hone), HBX.out]; rfl)
                clear hone
                go_wp2_with fail
                refine hct.mono ?_
                rintro e w4 ⟨k, t, rfl, hg6⟩
                simp only [tokV]
                have hsz4 : O < w4.heap.size := by
                  have h1 := hg6.size
                  have h2 := blk_lt HI3.out.rdr
                  have h3 := HRD.out
                  have h4 := HOD.out
                  omega
                have hres : w4.heap[O]? = some (.cells #[.int .i64 0, .int .i64 0] 95 (0, 0)) := blk_grown (by rw [HOD.out]; exact HI3.out.res) hg6 hOR
                have o0 : w4.cell? ⟨O, 0, none⟩ = some (.int .i64 0) := by rw [blk_cell hres]; rfl
                have o1 : w4.cell? ⟨O, 1, none⟩ = some (.int .i64 0) := by rw [blk_cell hres]; rfl
                have q0 : w4.frozen? ⟨O, 0, none⟩ = false := blk_frozen hres _
                have q1 : w4.frozen? ⟨O, 1, none⟩ = false := blk_frozen hres _
                have HB4 := Lib.hid (HI3.out.below.grown hg6 (by have := HI3.out.below.size; have := blk_lt HI3.out.rdr; have := HRD.out; omega) (fun k e => by cases e; have := HRD.out; omega))
                clear hct hres hg6
                go_wp2_with fail
                go_region
                all_goals go_wp2_with fail
                all_goals refine bodyPost_ret (v := .tuple #[.slice none 0 0, .agg #[.int .i64 10, .int .i64 (x : Int)]]) (by simp [results, Tryd.results32, go_sem, *]) rfl ?_
                all_goals have hBw := HB4.out
                all_goals have hOw : w.heap.size ≤ O := by rw [HOD.out]; exact Nat.le_refl _
                all_goals unfold TokensPost
                all_goals rw [HO2.out]
                all_goals exact ⟨by (repeat' (first | (with_reducible exact Below.refl _ _) | (with_reducible assumption) | (with_reducible refine Below.alloc ?_ ?_ _) | (with_reducible refine Below.drew ?_) | (with_reducible refine Below.setCell ?_ ?_ _) | (with_reducible refine Below.trans ?_ (Below.mono (by assumption) ?_)) | go_size)), rfl⟩
              | some r =>
                obtain ⟨k, t, x2⟩ := r
                rw [hone] at hct
                have HONE := Lib.hid hone
                clear hone
                go_wp2_with fail
                refine hct.mono ?_
                rintro e w4 ⟨rfl, hg6, hr6⟩
                simp only [tokV]
                have hI4 := HI3.out.run HRD.out hg6 hr6
                have hbd := oneB_bd s sg x hxs k t x2 HONE.out
                have hx2s : x2 ≤ s.size := hbd.2.2
                have hown := hI4.own
                have HI4 := Lib.hid hI4
                have HBD := Lib.hid hbd
                have hRlt := blk_lt hI4.rdr
                have hRO : R = O + 1 := by have := HRD.out; have := HOD.out; omega
                have HRO := Lib.hid hRO
                clear hct hI4 hg6 hr6 hbd hRO
                obtain ⟨it, hit, hzt0, hzt1, hzt2⟩ := info_parts info_token
                go_wp2_with (at_builtin; refine wpList_append_lies _ rfl _ _ 57 rfl (R + 1) 103 it (.agg #[.int .i64 0, .string ⟨#[]⟩, .int .i64 0]) 3 32 Tryd.underlying57 hit hzt0 hzt1 hzt2 rfl (by decide) _ _ _ rfl ((hown.alloc _).alloc _) ⟨w4.heap.size + 1, 0, none⟩ 1 1 [.int .i64 k, .string t, .int .i64 (x : Int)] rfl rfl (news_three _ _ _ _ _ _) (by simp [Value.oneCell']) (by decide) (by unfold maxLen; omega) (by omega) (by simp; omega) _ rfl ?_)
                intro g cap w5 hown5 hgr5 hat5 hlt5
                have hT5 : w5.heap[w4.heap.size]? = some (tokB k t x) := (hgr5.block _ (by simp; omega) (fun e => by have := (hown.lt _ e.symm).2; omega)).trans (blk_alloc (blk_new w4 _) _)
                have hOlt : O < w4.heap.size := by have := HRO.out; omega
                have hO5 : w5.heap[O]? = some (.cells #[.int .i64 0, .int .i64 0] 95 (0, 0)) := (hgr5.block _ (by simp; omega) (fun e => by have := (hown.lt _ e.symm).1; have := HRO.out; omega)).trans (blk_alloc (blk_alloc (by rw [HOD.out]; exact HI4.out.res) _) _)
                have hR5 : w5.heap[R]? = some (rdrB s sg x2) := (hgr5.block _ (by simp; omega) (fun e => by have := (hown.lt _ e.symm).1; omega)).trans (blk_alloc (blk_alloc HI4.out.rdr _) _)
                have hB5 : Below w.heap.size w w5 := by
                  have hb := HI4.out.below
                  have hbs := hb.size
                  exact Below.grown ((hb.alloc (by omega) _).alloc (by simp; omega) _) hgr5 (by simp; omega) (fun k e => by have := (hown.lt k e).1; have := HOD.out; have := HRO.out; omega)
                have t0 : w5.cell? ⟨w4.heap.size, 0, none⟩ = some (.int .i64 k) := by rw [blk_cell hT5]; rfl
                have o0 : w5.cell? ⟨O, 0, none⟩ = some (.int .i64 0) := by rw [blk_cell hO5]; rfl
                have o1 : w5.cell? ⟨O, 1, none⟩ = some (.int .i64 0) := by rw [blk_cell hO5]; rfl
                have q0 : w5.frozen? ⟨O, 0, none⟩ = false := blk_frozen hO5 _
                have q1 : w5.frozen? ⟨O, 1, none⟩ = false := blk_frozen hO5 _
                have hcc : tokCells acc ++ [Value.int .i64 k, Value.string t, Value.int .i64 (x : Int)] = tokCells (acc ++ [⟨k, t, x⟩]) := by simp [tokCells]
                rw [hcc] at hown5
                have HOWN5 := Lib.hid hown5
                have HB5 := Lib.hid hB5
                have HO5 := Lib.hid hO5
                have HR5 := Lib.hid hR5
                clear hT5 hcc hown5 hB5 hO5 hR5 hgr5 hat5 hown
                by_cases hk : k = 0
                · have hkb : (k == 0) = true := by rw [hk]; rfl
                  have HO2 := Lib.hid (show toks s sg = .ok (acc ++ [⟨k, t, x⟩]) by
                    rw [heq.out, show 2048 - acc.length = (2047 - acc.length) + 1 by omega, toksF_end s sg _ _ t x2 (by rw [HBX.out, HONE.out, hk]), HBX.out, hk]; rfl)
                  go_wp2_with fail
                  refine bodyPost_ret (v := .tuple #[.slice (some ⟨g, 0, none⟩) (acc.length + 1) cap, .agg #[.int .i64 0, .int .i64 0]]) (by simp [results, Tryd.results32, go_sem, *]) rfl ?_
                  have hOw : w.heap.size ≤ O := by rw [HOD.out]; exact Nat.le_refl _
                  unfold TokensPost
                  rw [HO2.out]
                  refine ⟨(HB5.out.setCell hOw _).setCell hOw _, _, rfl, ?_⟩
                  have := ownsRow_base (base' := w.heap.size) (ownsRow_setCell_below (ownsRow_setCell_below HOWN5.out (a := ⟨O, 0, none⟩) (by have := HRO.out; simp; omega) (.int .i64 0)) (a := ⟨O, 1, none⟩) (by have := HRO.out; simp; omega) (.int .i64 0)) (by have := HRO.out; omega)
                  rw [List.length_append]
                  exact this
                · have hkb : (k == 0) = false := by rw [beq_eq_false_iff_ne]; exact hk
                  have HK := Lib.hid hk
                  clear hk
                  go_wp2_with fail
                  go_roundw
                  case rel =>
                    refine ⟨x2, acc ++ [⟨k, t, x⟩], by simp; omega, hx2s, ?_, HB5.out, by rw [← HOD.out]; exact HO5.out, HR5.out, by rw [List.length_append]; exact HOWN5.out, by simp [lenV]⟩
                    show toks s sg = _
                    rw [heq.out, show 2048 - acc.length = (2047 - acc.length) + 1 by omega, toksF_go s sg _ _ k t x2 acc (by rw [HBX.out]; exact HONE.out) HK.out, HBX.out]
                    have e : 2048 - (acc ++ [(⟨k, t, x⟩ : Tok)]).length = 2047 - acc.length := by rw [List.length_append]; simp only [List.length_cons, List.length_nil]; omega
                    rw [e]
                  case measure =>
                    simp [lenV]; omega
        · have hne : ¬ (s.extract j x).toList = [] := by
            intro h
            have hz : (s.extract j x).size = x - j := piece_size _ _ _ hxs
            have h2 : (s.extract j x).data.toList.length = 0 := by rw [← Go.ByteArray.toList_eq, h]; rfl
            have h3 : (s.extract j x).data.toList.length = (s.extract j x).size := Array.length_toList
            omega
          go_wp2_with fail
          have hps := posOf_rdr hr3
          have hps2 := posOf_rdr hr2
          rw [hps, hps2]
          exact ⟨⟨x, by omega, hxs, by show behind s x = _; rw [HX.out, HBS.out]; exact hbe.out, World.grownBy.trans hg2 hg3, hr3⟩, by omega⟩

end Go.Proofs.YtejpjclbeogajaaDoor
