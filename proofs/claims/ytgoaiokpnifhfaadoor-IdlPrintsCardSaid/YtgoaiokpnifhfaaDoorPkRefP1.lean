/-
  Parts: RefP1, RefP2, RefP3, RefP4.
-/
import Derived.Test.YtgoaiokpnifhfaaDoorPkIdl2

/-
  The document's parser: its small steps. Its state is the program's (PS): where no fault is the place is the same.
-/
namespace Go.Proofs.YtgoaiokpnifhfaaDoor
open Go.RowKit
set_option linter.unusedVariables false
set_option linter.unusedSimpArgs false

def rparB (g cap : Nat) (l : List Tok) (σ : PS) : Obj := .cells #[.slice (some ⟨g, 0, none⟩) l.length cap, .int .i64 (σ.a : Int), .int .i64 σ.c, .int .i64 (σ.p : Int)] 185 (0, 0)
structure RAt (w : World) (P g cap : Nat) (l : List Tok) (σ : PS) : Prop where
  blk : w.heap[P]? = some (rparB g cap l σ)
  toks : ToksIn w g l
  ne : g ≠ P
  ended : Ended l
  fit : σ.a + 1 ≤ l.length
  small : l.length ≤ 100000
theorem RAt.fine {w : World} {P g cap : Nat} {l : List Tok} {σ : PS} (h : RAt w P g cap l σ) : Fine l σ := ⟨by have := h.fit; omega, fun _ => h.fit⟩
theorem RAt.below {w w' : World} {P g cap : Nat} {l : List Tok} {σ : PS} (h : RAt w P g cap l σ) (hb : Below w.heap.size w w') : RAt w' P g cap l σ :=
  { h with blk := blk_below h.blk hb (blk_lt h.blk), toks := h.toks.kept (hb.block g (h.toks.lt h.ended.1)) }
theorem RAt.grown {w w' : World} {P g cap : Nat} {l : List Tok} {σ τ : PS} (h : RAt w P g cap l σ) (hg : w.grownBy w' (some P)) (hb : w'.heap[P]? = some (rparB g cap l τ)) (hf : τ.a + 1 ≤ l.length) : RAt w' P g cap l τ :=
  { h with blk := hb, toks := h.toks.kept (hg.block g (h.toks.lt h.ended.1) (fun e => h.ne (by cases e; rfl))), fit := hf }
structure RPost (w : World) (P g cap : Nat) (l : List Tok) (τ : PS) (w' : World) : Prop where
  grown : w.grownBy w' (some P)
  par : RAt w' P g cap l τ
theorem RPost.of_below {w w' : World} {P g cap : Nat} {l : List Tok} {σ : PS} (h : RAt w P g cap l σ) (hb : Below w.heap.size w w') : RPost w P g cap l σ w' :=
  ⟨grown_below (World.grownBy.refl _ _) hb, h.below hb⟩
theorem RPost.below {w w1 w' : World} {P g cap : Nat} {l : List Tok} {σ : PS} (h : RPost w P g cap l σ w1) (hb : Below w1.heap.size w1 w') : RPost w P g cap l σ w' :=
  ⟨grown_below h.grown hb, h.par.below hb⟩
theorem RPost.trans {w w1 w' : World} {P g cap : Nat} {l : List Tok} {σ τ : PS} (h : RPost w P g cap l σ w1) (h2 : RPost w1 P g cap l τ w') : RPost w P g cap l τ w' :=
  ⟨World.grownBy.trans h.grown h2.grown, h2.par⟩
theorem rpar_go {w : World} {P g cap : Nat} {l : List Tok} {σ : PS} (h : RAt w P g cap l σ) (hf : σ.a + 1 + 1 ≤ l.length) : RPost w P g cap l (goS σ) (w.setCell ⟨P, 1, none⟩ (.int .i64 ((σ.a : Int) + 1))) := by
  have hb : (w.setCell ⟨P, 1, none⟩ (.int .i64 ((σ.a : Int) + 1))).heap[P]? = some (rparB g cap l (goS σ)) := by
    rw [blk_set h.blk]; rfl
  have hg : w.grownBy (w.setCell ⟨P, 1, none⟩ (.int .i64 ((σ.a : Int) + 1))) (some P) := grown_set (World.grownBy.refl _ _) _ _
  exact ⟨hg, h.grown hg hb hf⟩
theorem rpar_fault {w : World} {P g cap : Nat} {l : List Tok} {σ : PS} (h : RAt w P g cap l σ) (e : Int) (p : Nat) :
    RPost w P g cap l ⟨σ.a, e, p⟩ ((w.setCell ⟨P, 2, none⟩ (.int .i64 e)).setCell ⟨P, 3, none⟩ (.int .i64 (p : Int))) := by
  have hb : ((w.setCell ⟨P, 2, none⟩ (.int .i64 e)).setCell ⟨P, 3, none⟩ (.int .i64 (p : Int))).heap[P]? = some (rparB g cap l ⟨σ.a, e, p⟩) := by
    have h1 := blk_set h.blk 2 (.int .i64 e)
    rw [blk_set h1]; rfl
  have hg : w.grownBy ((w.setCell ⟨P, 2, none⟩ (.int .i64 e)).setCell ⟨P, 3, none⟩ (.int .i64 (p : Int))) (some P) := grown_set (grown_set (World.grownBy.refl _ _) _ _) _ _
  exact ⟨hg, h.grown hg hb h.fit⟩
/-- one more where the token is not the end -/
theorem fit_go {l : List Tok} (hE : Ended l) {σ : PS} (h : σ.a + 1 ≤ l.length) (hk : (hereT l σ.a).kind ≠ 0) : σ.a + 1 + 1 ≤ l.length := (fine_go hE (σ := ⟨σ.a, 0, 0⟩) ⟨by simp only; omega, fun _ => h⟩ hk).2 rfl


set_option maxHeartbeats 1000000 in
set_option maxRecDepth 100000 in
theorem rhere_calls (P g cap : Nat) (l : List Tok) (σ : PS) (w : World) (h : RAt w P g cap l σ) :
    Calls Tryd.prog 105 #[.pointer (some ⟨P, 0, none⟩)] w fun e w' => e = .returned (tokA (hereT l σ.a)) ∧ Below w.heap.size w w' := by
  have h0 := h.ended.1
  have hs := h.small
  have hfa := h.fit
  have lP := blk_lt h.blk
  have lg := h.toks.lt h0
  obtain ⟨t0, t1, t2⟩ := h.toks σ.a (by omega)
  have hml : σ.a < l.length := by omega
  have hmI0 : (0 : Int) ≤ (σ.a : Int) := by omega
  have hmIl : (σ.a : Int) < (l.length : Int) := by omega
  have hT : hereT l σ.a = (l[σ.a]?).getD tok0 := by rw [hereT, Nat.min_eq_left (by omega)]
  rw [hT]
  generalize (l[σ.a]?).getD tok0 = t at *
  have HB := Lib.hid h
  clear hT h
  go_enter Tryd.func105, Tryd.ntmps105
  go_wp2_with fail
  obtain ⟨W, hW⟩ : ∃ W, W = w.alloc (Obj.cells #[Value.int .i64 0, Value.string ⟨#[]⟩, Value.int .i64 0] 102) := ⟨_, rfl⟩
  have hB : Below w.heap.size w W := by rw [hW]; exact below1 _ _
  have hO : W.heap[w.heap.size]? = some (Obj.cells #[Value.int .i64 0, Value.string ⟨#[]⟩, Value.int .i64 0] 102 (0, 0)) := by rw [hW]; exact blk_new _ _
  rw [← hW]
  have hPb := (HB.out.below hB).blk
  have p0 : W.cell? ⟨P, 0, none⟩ = some (.slice (some ⟨g, 0, none⟩) l.length cap) := by rw [blk_cell hPb]; rfl
  have p1 : W.cell? ⟨P, 1, none⟩ = some (.int .i64 (σ.a : Int)) := by rw [blk_cell hPb]; rfl
  have p2 : W.cell? ⟨P, 2, none⟩ = some (.int .i64 σ.c) := by rw [blk_cell hPb]; rfl
  have p3 : W.cell? ⟨P, 3, none⟩ = some (.int .i64 (σ.p : Int)) := by rw [blk_cell hPb]; rfl
  have y1 : W.frozen? ⟨P, 1, none⟩ = false := blk_frozen hPb _
  have y2 : W.frozen? ⟨P, 2, none⟩ = false := blk_frozen hPb _
  have y3 : W.frozen? ⟨P, 3, none⟩ = false := blk_frozen hPb _
  have t0' := cell_kept t0 hB
  have t1' := cell_kept t1 hB
  have t2' := cell_kept t2 hB
  have HBw := Lib.hid hB
  obtain ⟨O, hOe⟩ : ∃ O, O = w.heap.size := ⟨_, rfl⟩
  rw [← hOe] at hO lP lg ⊢
  have o0 : W.cell? ⟨O, 0, none⟩ = some (.int .i64 0) := by rw [blk_cell hO]; rfl
  have o1 : W.cell? ⟨O, 1, none⟩ = some (.string ⟨#[]⟩) := by rw [blk_cell hO]; rfl
  have o2 : W.cell? ⟨O, 2, none⟩ = some (.int .i64 0) := by rw [blk_cell hO]; rfl
  have q0 : W.frozen? ⟨O, 0, none⟩ = false := blk_frozen hO _
  have q1 : W.frozen? ⟨O, 1, none⟩ = false := blk_frozen hO _
  have q2 : W.frozen? ⟨O, 2, none⟩ = false := blk_frozen hO _
  have hOw : w.heap.size ≤ O := by omega
  clear hB hO hPb hW hOe t0 t1 t2
  (have hX := SameAs.cell W 1; refine wp_region_same_tail 10 (by kernel_rfl) (by kernel_rfl) ?_; simp only [List.take_succ_cons, List.take_zero, List.drop_succ_cons, List.drop_zero]; (repeat (go_big_quiet_step (fail))); refine wpQuiet_nil ?_; clear hX)
  go_wp2_with fail
  refine bodyPost_ret (v := tokA t) (by simp [results, Tryd.results105, go_sem, tokA, *]) rfl ?_
  have hB := HBw.out
  exact ⟨rfl, by (repeat' (first | (with_reducible exact Below.refl _ _) | (with_reducible assumption) | (with_reducible refine below_drewN ?_ _) | (with_reducible refine Below.alloc ?_ ?_ _) | (with_reducible refine Below.drew ?_) | (with_reducible refine Below.setCell ?_ ?_ _) | (with_reducible refine Below.trans ?_ (Below.mono (by assumption) ?_)) | go_size))⟩

set_option maxHeartbeats 1000000 in
set_option maxRecDepth 100000 in
theorem rbad_calls (P g cap : Nat) (l : List Tok) (σ : PS) (c : Int) (w : World) (h : RAt w P g cap l σ) :
    Calls Tryd.prog 111 #[.pointer (some ⟨P, 0, none⟩), .int .i64 c] w fun e w' => e = .returned (.tuple #[]) ∧ RPost w P g cap l (failS l c σ) w' := by
  have hb := h.blk
  have p0 : w.cell? ⟨P, 0, none⟩ = some (.slice (some ⟨g, 0, none⟩) l.length cap) := by rw [blk_cell hb]; rfl
  have p1 : w.cell? ⟨P, 1, none⟩ = some (.int .i64 (σ.a : Int)) := by rw [blk_cell hb]; rfl
  have p2 : w.cell? ⟨P, 2, none⟩ = some (.int .i64 σ.c) := by rw [blk_cell hb]; rfl
  have p3 : w.cell? ⟨P, 3, none⟩ = some (.int .i64 (σ.p : Int)) := by rw [blk_cell hb]; rfl
  have y1 : w.frozen? ⟨P, 1, none⟩ = false := blk_frozen hb _
  have y2 : w.frozen? ⟨P, 2, none⟩ = false := blk_frozen hb _
  have y3 : w.frozen? ⟨P, 3, none⟩ = false := blk_frozen hb _
  have lP := blk_lt h.blk
  have H := Lib.hid h
  clear hb
  by_cases h0 : σ.c = 0
  · have b0 : (σ.c == 0) = true := by rw [beq_iff_eq]; exact h0
    have HF := Lib.hid (show failS l c σ = ⟨σ.a, c, (hereT l σ.a).pos⟩ by unfold failS; rw [if_pos h0])
    have hs : RAt (w.setCell ⟨P, 2, none⟩ (.int .i64 c)) P g cap l ⟨σ.a, c, σ.p⟩ := by
      have hb : (w.setCell ⟨P, 2, none⟩ (.int .i64 c)).heap[P]? = some (rparB g cap l ⟨σ.a, c, σ.p⟩) := by rw [blk_set h.blk]; rfl
      exact h.grown (grown_set (World.grownBy.refl _ _) _ _) hb h.fit
    have hh := rhere_calls P g cap l ⟨σ.a, c, σ.p⟩ _ hs
    have HS := Lib.hid hs
    clear h h0 hs
    go_enter Tryd.func111, Tryd.ntmps111
    go_wp2_with fail
    refine hh.mono ?_
    rintro e w1 ⟨rfl, hB1⟩
    have h1 := HS.out.below hB1
    have hb := h1.blk
    have lP1 := blk_lt hb
    have z3 : w1.frozen? ⟨P, 3, none⟩ = false := blk_frozen hb _
    have z5 : w1.cell? ⟨P, 3, none⟩ = some (.int .i64 (σ.p : Int)) := by rw [blk_cell hb]; rfl
    have H1 := Lib.hid h1
    have HB1 := Lib.hid hB1
    clear hb h1 hB1 p0 p1 p2 p3 y1 y2 y3 hh
    simp only [tokA]
    have kf := fun (w : World) (a b c : Value) => field_tok2 w a b c
    go_wp2_with fail
    refine bodyPost_end (v := .tuple #[]) (by simp [results, Tryd.results111, go_sem]) rfl ?_
    refine ⟨rfl, ?_⟩
    rw [HF.out]
    have hg1 : w.grownBy (w.setCell ⟨P, 2, none⟩ (.int .i64 c)) (some P) := grown_set (World.grownBy.refl _ _) _ _
    have hg2 : w.grownBy w1 (some P) := grown_below hg1 HB1.out
    have hb2 : (w1.setCell ⟨P, 3, none⟩ (.int .i64 ((hereT l σ.a).pos : Int))).heap[P]? = some (rparB g cap l ⟨σ.a, c, (hereT l σ.a).pos⟩) := by rw [blk_set H1.out.blk]; rfl
    have hg3 : w1.grownBy (w1.setCell ⟨P, 3, none⟩ (.int .i64 ((hereT l σ.a).pos : Int))) (some P) := grown_set (World.grownBy.refl _ _) _ _
    exact ⟨World.grownBy.trans hg2 hg3, H1.out.grown hg3 hb2 H1.out.fit⟩
  · have b0 : (σ.c == 0) = false := by rw [beq_eq_false_iff_ne]; exact h0
    have HF := Lib.hid (show failS l c σ = σ from failS_stuck h0)
    clear h h0
    go_enter Tryd.func111, Tryd.ntmps111
    go_wp2_with fail
    refine bodyPost_end (v := .tuple #[]) (by simp [results, Tryd.results111, go_sem]) rfl ?_
    exact ⟨rfl, by rw [HF.out]; exact RPost.of_below H.out (Below.refl _ _)⟩

end Go.Proofs.YtgoaiokpnifhfaaDoor

/-
  The document's parser: is, want, name.
-/
namespace Go.Proofs.YtgoaiokpnifhfaaDoor
open Go.RowKit
set_option linter.unusedVariables false
set_option linter.unusedSimpArgs false

theorem field_tok0' (w : World) (a b c : Value) : Sem.run Tryd.prog (Instr.field 102 (.agg #[a, b, c]) 0) w = .ok a w := by kernel_rfl


set_option maxHeartbeats 2000000 in
set_option maxRecDepth 100000 in
theorem ris_calls (P g cap : Nat) (l : List Tok) (σ : PS) (k : Int) (s : ByteArray) (w : World) (h : RAt w P g cap l σ) :
    Calls Tryd.prog 106 #[.pointer (some ⟨P, 0, none⟩), .int .i64 k, .string s] w fun e w' => e = .returned (.bool (isT l k s σ)) ∧ Below w.heap.size w w' := by
  have hb := h.blk
  have p0 : w.cell? ⟨P, 0, none⟩ = some (.slice (some ⟨g, 0, none⟩) l.length cap) := by rw [blk_cell hb]; rfl
  have p1 : w.cell? ⟨P, 1, none⟩ = some (.int .i64 (σ.a : Int)) := by rw [blk_cell hb]; rfl
  have p2 : w.cell? ⟨P, 2, none⟩ = some (.int .i64 σ.c) := by rw [blk_cell hb]; rfl
  have p3 : w.cell? ⟨P, 3, none⟩ = some (.int .i64 (σ.p : Int)) := by rw [blk_cell hb]; rfl
  have y1 : w.frozen? ⟨P, 1, none⟩ = false := blk_frozen hb _
  have y2 : w.frozen? ⟨P, 2, none⟩ = false := blk_frozen hb _
  have y3 : w.frozen? ⟨P, 3, none⟩ = false := blk_frozen hb _
  have lP := blk_lt h.blk
  have hh := fun (W : World) (h : RAt W P g cap l σ) => rhere_calls P g cap l σ W h
  have HH := Lib.hid hh
  have H := Lib.hid h
  clear hb h hh
  have k0 := fun (w : World) (a b c : Value) => field_tok0' w a b c
  have k1 := fun (w : World) (a b c : Value) => field_tok1 w a b c
  obtain ⟨t, ht⟩ : ∃ t, hereT l σ.a = t := ⟨_, rfl⟩
  rw [ht] at HH
  have HTE := Lib.hid ht
  clear ht
  by_cases h0 : σ.c = 0
  · have b0 : (σ.c == 0) = true := by rw [beq_iff_eq]; exact h0
    by_cases hk : t.kind = k
    · have bk : (t.kind == k) = true := by rw [beq_iff_eq]; exact hk
      have HR := Lib.hid (show isT l k s σ = eqS t.text s by rw [isT, HTE.out, decide_eq_true h0, decide_eq_true hk]; rfl)
      clear h0 hk
      go_enter Tryd.func106, Tryd.ntmps106
      go_wp2_with fail
      refine (HH.out _ H.out).mono ?_
      rintro e w1 ⟨rfl, hB1⟩
      have HB1 := Lib.hid hB1
      clear hB1 p0 p1 p2 p3 y1 y2 y3
      simp only [tokA]
      go_wp2_with fail
      refine (HH.out _ (H.out.below HB1.out)).mono ?_
      rintro e w2 ⟨rfl, hB2⟩
      have HB2 := Lib.hid hB2
      clear hB2
      simp only [tokA]
      go_wp2_with fail
      go_ret
      exact ⟨by rw [HR.out, eqS, ← Go.ByteArray.toList_eq, ← Go.ByteArray.toList_eq]; rfl, HB1.out.trans (HB2.out.mono HB1.out.size)⟩
    · have bk : (t.kind == k) = false := by rw [beq_eq_false_iff_ne]; exact hk
      have HR := Lib.hid (show isT l k s σ = false by rw [isT, HTE.out, decide_eq_false hk]; simp)
      clear h0 hk
      go_enter Tryd.func106, Tryd.ntmps106
      go_wp2_with fail
      refine (HH.out _ H.out).mono ?_
      rintro e w1 ⟨rfl, hB1⟩
      have HB1 := Lib.hid hB1
      clear hB1 p0 p1 p2 p3 y1 y2 y3
      simp only [tokA]
      go_wp2_with fail
      go_ret
      exact ⟨by rw [HR.out]; rfl, HB1.out⟩
  · have b0 : (σ.c == 0) = false := by rw [beq_eq_false_iff_ne]; exact h0
    have HR := Lib.hid (show isT l k s σ = false from isT_fault h0)
    clear h0
    go_enter Tryd.func106, Tryd.ntmps106
    go_wp2_with fail
    go_ret
    exact ⟨by rw [HR.out]; rfl, Below.refl _ _⟩

set_option maxHeartbeats 1000000 in
set_option maxRecDepth 100000 in
theorem rwant_calls (P g cap : Nat) (l : List Tok) (σ : PS) (s : ByteArray) (w : World) (h : RAt w P g cap l σ) :
    Calls Tryd.prog 110 #[.pointer (some ⟨P, 0, none⟩), .string s] w fun e w' => e = .returned (.tuple #[]) ∧ RPost w P g cap l (wantS l s σ) w' := by
  have hs := ris_calls P g cap l σ 4 s w h
  have hsm := h.small
  have hfi := h.fit
  have haI : (σ.a : Int) ≤ 100000 := by omega
  have H := Lib.hid h
  cases ht : isT l 4 s σ with
  | true =>
    rw [ht] at hs
    have HW := Lib.hid (show wantS l s σ = goS σ by rw [wantS, if_pos ht])
    have HG := Lib.hid (fit_go h.ended h.fit (by rw [(isT_kind ht).2.1]; decide))
    clear ht h hsm hfi
    go_enter Tryd.func110, Tryd.ntmps110
    go_wp2_with fail
    refine hs.mono ?_
    rintro e w1 ⟨rfl, hB1⟩
    have h1 := H.out.below hB1
    have hb := h1.blk
    have p0 : w1.cell? ⟨P, 0, none⟩ = some (.slice (some ⟨g, 0, none⟩) l.length cap) := by rw [blk_cell hb]; rfl
    have p1 : w1.cell? ⟨P, 1, none⟩ = some (.int .i64 (σ.a : Int)) := by rw [blk_cell hb]; rfl
    have p2 : w1.cell? ⟨P, 2, none⟩ = some (.int .i64 σ.c) := by rw [blk_cell hb]; rfl
    have p3 : w1.cell? ⟨P, 3, none⟩ = some (.int .i64 (σ.p : Int)) := by rw [blk_cell hb]; rfl
    have y1 : w1.frozen? ⟨P, 1, none⟩ = false := blk_frozen hb _
    have y2 : w1.frozen? ⟨P, 2, none⟩ = false := blk_frozen hb _
    have y3 : w1.frozen? ⟨P, 3, none⟩ = false := blk_frozen hb _
    have lP1 := blk_lt hb
    have H1 := Lib.hid h1
    have HB1 := Lib.hid hB1
    clear hs hB1 hb h1
    go_wp2_with fail
    refine bodyPost_end (v := .tuple #[]) (by simp [results, Tryd.results110, go_sem]) rfl ?_
    exact ⟨rfl, by rw [HW.out]; exact (RPost.of_below H.out HB1.out).trans (rpar_go H1.out HG.out)⟩
  | false =>
    rw [ht] at hs
    have HW := Lib.hid (show wantS l s σ = failS l 11 σ by rw [wantS, if_neg (by rw [ht]; simp)])
    clear ht h hsm hfi
    go_enter Tryd.func110, Tryd.ntmps110
    go_wp2_with fail
    refine hs.mono ?_
    rintro e w1 ⟨rfl, hB1⟩
    have HB1 := Lib.hid hB1
    clear hs hB1
    go_wp2_with fail
    refine (rbad_calls P g cap l σ 11 w1 (H.out.below HB1.out)).mono ?_
    rintro e w2 ⟨rfl, hp2⟩
    have HP2 := Lib.hid hp2
    clear hp2
    go_wp2_with fail
    refine bodyPost_end (v := .tuple #[]) (by simp [results, Tryd.results110, go_sem]) rfl ?_
    exact ⟨rfl, by rw [HW.out]; exact (RPost.of_below H.out HB1.out).trans HP2.out⟩

end Go.Proofs.YtgoaiokpnifhfaaDoor

/-
  The document's parser: a name.
-/
namespace Go.Proofs.YtgoaiokpnifhfaaDoor
open Go.RowKit
set_option linter.unusedVariables false
set_option linter.unusedSimpArgs false

theorem RPost.far {w w2 : World} {P g cap : Nat} {l : List Tok} {τ : PS} (h : RPost w P g cap l τ w2) {O : Nat} (hO : w.heap.size ≤ O) (hP : P < w.heap.size) (hg : g < w.heap.size) (j : Nat) (v : Value) : RPost w P g cap l τ (w2.setCell ⟨O, j, none⟩ v) :=
  ⟨grown_far h.grown O j v hO, { h.par with blk := blk_set_ne h.par.blk _ (by simp; omega) _, toks := h.par.toks.kept (Below.heap_setCell _ _ _ _ (by simp; omega)) }⟩

set_option maxHeartbeats 2000000 in
set_option maxRecDepth 100000 in
theorem rname_calls (P g cap : Nat) (l : List Tok) (σ : PS) (q : Bool) (w : World) (h : RAt w P g cap l σ) :
    Calls Tryd.prog 109 #[.pointer (some ⟨P, 0, none⟩), .bool q] w fun e w' => e = .returned (tokA (nameV l q σ)) ∧ RPost w P g cap l (nameS l q σ) w' := by
  have hh := fun (W : World) (h : RAt W P g cap l σ) => rhere_calls P g cap l σ W h
  have hfl := fun (W : World) (h : RAt W P g cap l σ) (e : Int) => rbad_calls P g cap l σ e W h
  have lP := blk_lt h.blk
  have lg := h.toks.lt h.ended.1
  have ha1 : (σ.a : Int) ≤ 100000 := by have := h.fit; have := h.small; omega
  obtain ⟨t, ht⟩ : ∃ t, hereT l σ.a = t := ⟨_, rfl⟩
  have HTE := Lib.hid ht
  rw [ht] at hh
  have HH := Lib.hid hh
  have HFL := Lib.hid hfl
  have H := Lib.hid h
  clear h hh hfl ht
  go_enter Tryd.func109, Tryd.ntmps109
  go_wp2_with fail
  refine (HH.out _ (H.out.below (below1 _ _))).mono ?_
  rintro e w1 ⟨rfl, hB1⟩
  simp only [tokA]
  have hO1 := blk_below (blk_new w _) hB1 (by simp)
  have hz1 := hB1.size
  simp only [World.size_alloc] at hz1
  have hB1w := (below1 w _).trans (hB1.mono (by simp))
  have h1 := (H.out.below (below1 _ _)).below hB1
  obtain ⟨O, hO⟩ : ∃ O, O = w.heap.size := ⟨_, rfl⟩
  rw [← hO] at hO1 hz1 ⊢
  have hOw : w.heap.size ≤ O := by omega
  have hb2 := h1.below (below1 w1 (Obj.cells #[Value.int .i64 t.kind, Value.string t.text, Value.int .i64 (t.pos : Int)] 102 (0, 0)))
  have hO2 := blk_alloc hO1 (Obj.cells #[Value.int .i64 t.kind, Value.string t.text, Value.int .i64 (t.pos : Int)] 102 (0, 0))
  have hbb := hb2.blk
  have p1 : _ = some (Value.int .i64 (σ.a : Int)) := blk_cell hbb 1
  have p2 : _ = some (Value.int .i64 σ.c) := blk_cell hbb 2
  have y1 : _ = false := blk_frozen hbb 1
  have o0 : _ = some (Value.int .i64 0) := blk_cell hO2 0
  have o1 : _ = some (Value.string ⟨#[]⟩) := blk_cell hO2 1
  have o2 : _ = some (Value.int .i64 0) := blk_cell hO2 2
  have q0 : _ = false := blk_frozen hO2 0
  have q1 : _ = false := blk_frozen hO2 1
  have q2 : _ = false := blk_frozen hO2 2
  have p1' : w1.cell? ⟨P, 1, none⟩ = some (Value.int .i64 (σ.a : Int)) := blk_cell h1.blk 1
  have p2' : w1.cell? ⟨P, 2, none⟩ = some (Value.int .i64 σ.c) := blk_cell h1.blk 2
  have y1' : w1.frozen? ⟨P, 1, none⟩ = false := blk_frozen h1.blk 1
  have o0' : w1.cell? ⟨O, 0, none⟩ = some (Value.int .i64 0) := blk_cell hO1 0
  have o1' : w1.cell? ⟨O, 1, none⟩ = some (Value.string ⟨#[]⟩) := blk_cell hO1 1
  have o2' : w1.cell? ⟨O, 2, none⟩ = some (Value.int .i64 0) := blk_cell hO1 2
  have q0' : w1.frozen? ⟨O, 0, none⟩ = false := blk_frozen hO1 0
  have q1' : w1.frozen? ⟨O, 1, none⟩ = false := blk_frozen hO1 1
  have q2' : w1.frozen? ⟨O, 2, none⟩ = false := blk_frozen hO1 2
  have lP1 : P < w1.heap.size := blk_lt h1.blk
  have lO1 : O < w1.heap.size := blk_lt hO1
  have hne : O ≠ P := by omega
  have HB2 := Lib.hid (hB1w.trans ((below1 w1 (Obj.cells #[Value.int .i64 t.kind, Value.string t.text, Value.int .i64 (t.pos : Int)] 102 (0, 0))).mono hB1w.size))
  have H2 := Lib.hid hb2
  have H1 := Lib.hid h1
  have HB1 := Lib.hid hB1w
  have HO2 := Lib.hid hO2
  clear hB1 hB1w h1 hO hb2 hO2 hbb hO1 hz1
  have hzt : t.text.toList.isEmpty = decide (t.text.size = 0) := by
    have hl : t.text.data.toList.length = t.text.size := Array.length_toList
    rw [Go.ByteArray.toList_eq, ← hl]
    cases t.text.data.toList <;> simp
  by_cases h0 : σ.c = 0
  · have b0 : (σ.c != 0) = false := by rw [bne_eq_false_iff_eq]; exact h0
    by_cases hk : t.kind = 1 ∨ (q = true ∧ t.kind = 3)
    · have hnb : nameBad l q σ = false := by
        rw [nameBad, HTE.out]
        rcases hk with e | ⟨e, e'⟩
        · simp [e]
        · simp [e, e']
      have hk0 : t.kind ≠ 0 := by rcases hk with e | ⟨_, e⟩ <;> rw [e] <;> decide
      have HNB := Lib.hid hnb
      have HK0 := Lib.hid hk0
      by_cases hz : t.text.size = 0
      · have d1 : decide ((t.text.size : Int) < 1) = true := decide_eq_true (by omega)
        have hnl : nameLong l σ = true := by rw [nameLong, HTE.out, decide_eq_true hz]; simp
        rw [decide_eq_true hz] at hzt
        clear hnb hk0
        rcases hk with e | ⟨rfl, e'⟩
        · have b2 : (t.kind != 1) = false := by rw [e]; rfl
          clear e
          have HV := Lib.hid (show nameV l q σ = tok0 from (by rw [nameV, if_pos h0, if_neg (by rw [HNB.out]; simp), if_pos hnl]))
          have HS := Lib.hid (show nameS l q σ = failS l 12 σ from (by rw [nameS, if_pos h0, if_neg (by rw [HNB.out]; simp), if_pos hnl]))
          clear hnl h0 hz
          go_wp2_with fail
          refine (HFL.out _ H2.out 12).mono ?_
          rintro e w3 ⟨rfl, hp3⟩
          have hO3 := blk_grown HO2.out hp3.grown hne
          have z0' : w3.cell? ⟨O, 0, none⟩ = some (.int .i64 0) := by rw [blk_cell hO3]; rfl
          have z1' : w3.cell? ⟨O, 1, none⟩ = some (.string ⟨#[]⟩) := by rw [blk_cell hO3]; rfl
          have z2' : w3.cell? ⟨O, 2, none⟩ = some (.int .i64 0) := by rw [blk_cell hO3]; rfl
          have x0' : w3.frozen? ⟨O, 0, none⟩ = false := blk_frozen hO3 _
          have x1' : w3.frozen? ⟨O, 1, none⟩ = false := blk_frozen hO3 _
          have x2' : w3.frozen? ⟨O, 2, none⟩ = false := blk_frozen hO3 _
          have HP3 := Lib.hid ((RPost.of_below H.out HB2.out).trans hp3)
          clear hO3 hp3 p1 p2 y1 o0 o1 o2 q0 q1 q2 p1' p2' y1' o0' o1' o2' q0' q1' q2'
          go_wp2_with fail
          refine bodyPost_ret (v := tokA tok0) (by simp [results, Tryd.results109, go_sem, tokA, tok0, *]) rfl ?_
          exact ⟨by rw [HV.out], by rw [HS.out]; exact ((HP3.out.far hOw lP lg 0 _).far hOw lP lg 1 _).far hOw lP lg 2 _⟩
        · have b2 : (t.kind != 1) = true := by rw [e']; rfl
          have b3 : (t.kind == 3) = true := by rw [e']; rfl
          clear e'
          have HV := Lib.hid (show nameV l true σ = tok0 from (by rw [nameV, if_pos h0, if_neg (by rw [HNB.out]; simp), if_pos hnl]))
          have HS := Lib.hid (show nameS l true σ = failS l 12 σ from (by rw [nameS, if_pos h0, if_neg (by rw [HNB.out]; simp), if_pos hnl]))
          clear hnl h0 hz
          go_wp2_with fail
          refine (HFL.out _ H2.out 12).mono ?_
          rintro e w3 ⟨rfl, hp3⟩
          have hO3 := blk_grown HO2.out hp3.grown hne
          have z0' : w3.cell? ⟨O, 0, none⟩ = some (.int .i64 0) := by rw [blk_cell hO3]; rfl
          have z1' : w3.cell? ⟨O, 1, none⟩ = some (.string ⟨#[]⟩) := by rw [blk_cell hO3]; rfl
          have z2' : w3.cell? ⟨O, 2, none⟩ = some (.int .i64 0) := by rw [blk_cell hO3]; rfl
          have x0' : w3.frozen? ⟨O, 0, none⟩ = false := blk_frozen hO3 _
          have x1' : w3.frozen? ⟨O, 1, none⟩ = false := blk_frozen hO3 _
          have x2' : w3.frozen? ⟨O, 2, none⟩ = false := blk_frozen hO3 _
          have HP3 := Lib.hid ((RPost.of_below H.out HB2.out).trans hp3)
          clear hO3 hp3 p1 p2 y1 o0 o1 o2 q0 q1 q2 p1' p2' y1' o0' o1' o2' q0' q1' q2'
          go_wp2_with fail
          refine bodyPost_ret (v := tokA tok0) (by simp [results, Tryd.results109, go_sem, tokA, tok0, *]) rfl ?_
          exact ⟨by rw [HV.out], by rw [HS.out]; exact ((HP3.out.far hOw lP lg 0 _).far hOw lP lg 1 _).far hOw lP lg 2 _⟩
      · have d1 : decide ((t.text.size : Int) < 1) = false := decide_eq_false (by omega)
        rw [decide_eq_false hz] at hzt
        by_cases h40 : 40 < t.text.size
        · have d40 : decide ((40 : Int) < (t.text.size : Int)) = true := decide_eq_true (by omega)
          have hnl : nameLong l σ = true := by rw [nameLong, HTE.out, decide_eq_true h40]; rfl
          clear hnb hk0
          rcases hk with e | ⟨rfl, e'⟩
          · have b2 : (t.kind != 1) = false := by rw [e]; rfl
            clear e
            have HV := Lib.hid (show nameV l q σ = tok0 from (by rw [nameV, if_pos h0, if_neg (by rw [HNB.out]; simp), if_pos hnl]))
            have HS := Lib.hid (show nameS l q σ = failS l 12 σ from (by rw [nameS, if_pos h0, if_neg (by rw [HNB.out]; simp), if_pos hnl]))
            clear hnl h0 hz h40
            go_wp2_with fail
            refine (HFL.out _ H2.out 12).mono ?_
            rintro e w3 ⟨rfl, hp3⟩
            have hO3 := blk_grown HO2.out hp3.grown hne
            have z0' : w3.cell? ⟨O, 0, none⟩ = some (.int .i64 0) := by rw [blk_cell hO3]; rfl
            have z1' : w3.cell? ⟨O, 1, none⟩ = some (.string ⟨#[]⟩) := by rw [blk_cell hO3]; rfl
            have z2' : w3.cell? ⟨O, 2, none⟩ = some (.int .i64 0) := by rw [blk_cell hO3]; rfl
            have x0' : w3.frozen? ⟨O, 0, none⟩ = false := blk_frozen hO3 _
            have x1' : w3.frozen? ⟨O, 1, none⟩ = false := blk_frozen hO3 _
            have x2' : w3.frozen? ⟨O, 2, none⟩ = false := blk_frozen hO3 _
            have HP3 := Lib.hid ((RPost.of_below H.out HB2.out).trans hp3)
            clear hO3 hp3 p1 p2 y1 o0 o1 o2 q0 q1 q2 p1' p2' y1' o0' o1' o2' q0' q1' q2'
            go_wp2_with fail
            refine bodyPost_ret (v := tokA tok0) (by simp [results, Tryd.results109, go_sem, tokA, tok0, *]) rfl ?_
            exact ⟨by rw [HV.out], by rw [HS.out]; exact ((HP3.out.far hOw lP lg 0 _).far hOw lP lg 1 _).far hOw lP lg 2 _⟩
          · have b2 : (t.kind != 1) = true := by rw [e']; rfl
            have b3 : (t.kind == 3) = true := by rw [e']; rfl
            clear e'
            have HV := Lib.hid (show nameV l true σ = tok0 from (by rw [nameV, if_pos h0, if_neg (by rw [HNB.out]; simp), if_pos hnl]))
            have HS := Lib.hid (show nameS l true σ = failS l 12 σ from (by rw [nameS, if_pos h0, if_neg (by rw [HNB.out]; simp), if_pos hnl]))
            clear hnl h0 hz h40
            go_wp2_with fail
            refine (HFL.out _ H2.out 12).mono ?_
            rintro e w3 ⟨rfl, hp3⟩
            have hO3 := blk_grown HO2.out hp3.grown hne
            have z0' : w3.cell? ⟨O, 0, none⟩ = some (.int .i64 0) := by rw [blk_cell hO3]; rfl
            have z1' : w3.cell? ⟨O, 1, none⟩ = some (.string ⟨#[]⟩) := by rw [blk_cell hO3]; rfl
            have z2' : w3.cell? ⟨O, 2, none⟩ = some (.int .i64 0) := by rw [blk_cell hO3]; rfl
            have x0' : w3.frozen? ⟨O, 0, none⟩ = false := blk_frozen hO3 _
            have x1' : w3.frozen? ⟨O, 1, none⟩ = false := blk_frozen hO3 _
            have x2' : w3.frozen? ⟨O, 2, none⟩ = false := blk_frozen hO3 _
            have HP3 := Lib.hid ((RPost.of_below H.out HB2.out).trans hp3)
            clear hO3 hp3 p1 p2 y1 o0 o1 o2 q0 q1 q2 p1' p2' y1' o0' o1' o2' q0' q1' q2'
            go_wp2_with fail
            refine bodyPost_ret (v := tokA tok0) (by simp [results, Tryd.results109, go_sem, tokA, tok0, *]) rfl ?_
            exact ⟨by rw [HV.out], by rw [HS.out]; exact ((HP3.out.far hOw lP lg 0 _).far hOw lP lg 1 _).far hOw lP lg 2 _⟩
        · have d40 : decide ((40 : Int) < (t.text.size : Int)) = false := decide_eq_false (by omega)
          have hnl : nameLong l σ = false := by rw [nameLong, HTE.out, decide_eq_false hz, decide_eq_false h40]; rfl
          clear hnb hk0
          rcases hk with e | ⟨rfl, e'⟩
          · have b2 : (t.kind != 1) = false := by rw [e]; rfl
            clear e
            have HV := Lib.hid (show nameV l q σ = t from (by rw [nameV, if_pos h0, if_neg (by rw [HNB.out]; simp), if_neg (by rw [hnl]; simp), HTE.out]))
            have HS := Lib.hid (show nameS l q σ = goS σ from (by rw [nameS, if_pos h0, if_neg (by rw [HNB.out]; simp), if_neg (by rw [hnl]; simp)]))
            have hfg := fit_go H.out.ended H.out.fit (by rw [HTE.out]; exact HK0.out)
            have HFG := Lib.hid hfg
            clear hfg hnl h0 hz h40
            go_wp2_with fail
            refine bodyPost_ret (v := tokA t) (by simp [results, Tryd.results109, go_sem, tokA, *]) rfl ?_
            refine ⟨by rw [HV.out], ?_⟩
            rw [HS.out]
            have HP := (RPost.of_below H.out HB1.out).trans (rpar_go H1.out HFG.out)
            exact (((HP.far hOw lP lg 0 _).far hOw lP lg 1 _).far hOw lP lg 2 _).below (below1 _ _)
          · have b2 : (t.kind != 1) = true := by rw [e']; rfl
            have b3 : (t.kind == 3) = true := by rw [e']; rfl
            clear e'
            have HV := Lib.hid (show nameV l true σ = t from (by rw [nameV, if_pos h0, if_neg (by rw [HNB.out]; simp), if_neg (by rw [hnl]; simp), HTE.out]))
            have HS := Lib.hid (show nameS l true σ = goS σ from (by rw [nameS, if_pos h0, if_neg (by rw [HNB.out]; simp), if_neg (by rw [hnl]; simp)]))
            have hfg := fit_go H.out.ended H.out.fit (by rw [HTE.out]; exact HK0.out)
            have HFG := Lib.hid hfg
            clear hfg hnl h0 hz h40
            go_wp2_with fail
            refine bodyPost_ret (v := tokA t) (by simp [results, Tryd.results109, go_sem, tokA, *]) rfl ?_
            refine ⟨by rw [HV.out], ?_⟩
            rw [HS.out]
            have HP := (RPost.of_below H.out HB1.out).trans (rpar_go H1.out HFG.out)
            exact (((HP.far hOw lP lg 0 _).far hOw lP lg 1 _).far hOw lP lg 2 _).below (below1 _ _)
    · have hk1 : ¬ t.kind = 1 := fun e => hk (.inl e)
      have b2 : (t.kind != 1) = true := by rw [bne_iff_ne]; exact hk1
      clear hzt
      cases q with
      | true =>
        have hk3 : ¬ t.kind = 3 := fun e => hk (.inr ⟨rfl, e⟩)
        have b3 : (t.kind == 3) = false := by rw [beq_eq_false_iff_ne]; exact hk3
        have hnb : nameBad l true σ = true := by rw [nameBad, HTE.out, decide_eq_false hk1, decide_eq_false hk3]; rfl
        clear hk hk1 hk3
        have HV := Lib.hid (show nameV l true σ = tok0 from (by rw [nameV, if_pos h0, if_pos hnb]))
        have HS := Lib.hid (show nameS l true σ = failS l 11 σ from (by rw [nameS, if_pos h0, if_pos hnb]))
        clear hnb h0
        go_wp2_with fail
        refine (HFL.out _ H2.out 11).mono ?_
        rintro e w3 ⟨rfl, hp3⟩
        have hO3 := blk_grown HO2.out hp3.grown hne
        have z0' : w3.cell? ⟨O, 0, none⟩ = some (.int .i64 0) := by rw [blk_cell hO3]; rfl
        have z1' : w3.cell? ⟨O, 1, none⟩ = some (.string ⟨#[]⟩) := by rw [blk_cell hO3]; rfl
        have z2' : w3.cell? ⟨O, 2, none⟩ = some (.int .i64 0) := by rw [blk_cell hO3]; rfl
        have x0' : w3.frozen? ⟨O, 0, none⟩ = false := blk_frozen hO3 _
        have x1' : w3.frozen? ⟨O, 1, none⟩ = false := blk_frozen hO3 _
        have x2' : w3.frozen? ⟨O, 2, none⟩ = false := blk_frozen hO3 _
        have HP3 := Lib.hid ((RPost.of_below H.out HB2.out).trans hp3)
        clear hO3 hp3 p1 p2 y1 o0 o1 o2 q0 q1 q2 p1' p2' y1' o0' o1' o2' q0' q1' q2'
        go_wp2_with fail
        refine bodyPost_ret (v := tokA tok0) (by simp [results, Tryd.results109, go_sem, tokA, tok0, *]) rfl ?_
        exact ⟨by rw [HV.out], by rw [HS.out]; exact ((HP3.out.far hOw lP lg 0 _).far hOw lP lg 1 _).far hOw lP lg 2 _⟩
      | false =>
        have hnb : nameBad l false σ = true := by rw [nameBad, HTE.out, decide_eq_false hk1]; rfl
        clear hk hk1
        have HV := Lib.hid (show nameV l false σ = tok0 from (by rw [nameV, if_pos h0, if_pos hnb]))
        have HS := Lib.hid (show nameS l false σ = failS l 11 σ from (by rw [nameS, if_pos h0, if_pos hnb]))
        clear hnb h0
        go_wp2_with fail
        refine (HFL.out _ H2.out 11).mono ?_
        rintro e w3 ⟨rfl, hp3⟩
        have hO3 := blk_grown HO2.out hp3.grown hne
        have z0' : w3.cell? ⟨O, 0, none⟩ = some (.int .i64 0) := by rw [blk_cell hO3]; rfl
        have z1' : w3.cell? ⟨O, 1, none⟩ = some (.string ⟨#[]⟩) := by rw [blk_cell hO3]; rfl
        have z2' : w3.cell? ⟨O, 2, none⟩ = some (.int .i64 0) := by rw [blk_cell hO3]; rfl
        have x0' : w3.frozen? ⟨O, 0, none⟩ = false := blk_frozen hO3 _
        have x1' : w3.frozen? ⟨O, 1, none⟩ = false := blk_frozen hO3 _
        have x2' : w3.frozen? ⟨O, 2, none⟩ = false := blk_frozen hO3 _
        have HP3 := Lib.hid ((RPost.of_below H.out HB2.out).trans hp3)
        clear hO3 hp3 p1 p2 y1 o0 o1 o2 q0 q1 q2 p1' p2' y1' o0' o1' o2' q0' q1' q2'
        go_wp2_with fail
        refine bodyPost_ret (v := tokA tok0) (by simp [results, Tryd.results109, go_sem, tokA, tok0, *]) rfl ?_
        exact ⟨by rw [HV.out], by rw [HS.out]; exact ((HP3.out.far hOw lP lg 0 _).far hOw lP lg 1 _).far hOw lP lg 2 _⟩
  · have b0 : (σ.c != 0) = true := by rw [bne_iff_ne]; exact h0
    have HV := Lib.hid (show nameV l q σ = tok0 by rw [nameV, if_neg h0])
    have HS := Lib.hid (show nameS l q σ = σ by rw [nameS, if_neg h0])
    clear hzt h0
    go_wp2_with fail
    refine bodyPost_ret (v := tokA tok0) (by simp [results, Tryd.results109, go_sem, tokA, tok0, *]) rfl ?_
    exact ⟨by rw [HV.out], by rw [HS.out]; exact ((((RPost.of_below H.out HB1.out).far hOw lP lg 0 _).far hOw lP lg 1 _).far hOw lP lg 2 _).below (below1 _ _)⟩

end Go.Proofs.YtgoaiokpnifhfaaDoor

/-
  The document's parser: a type.
-/
namespace Go.Proofs.YtgoaiokpnifhfaaDoor
open Go.RowKit
set_option linter.unusedVariables false
set_option linter.unusedSimpArgs false

structure RkInv (w : World) (P g cap : Nat) (l : List Tok) (O U : Nat) (nm : ByteArray) (n p : Nat) (τ : PS) (wr : World) : Prop where
  post : RPost w P g cap l τ wr
  res : wr.heap[O]? = some (rtyB ⟨#[]⟩ 0 0)
  out : wr.heap[U]? = some (rtyB nm n p)
theorem RkInv.step {w : World} {P g cap : Nat} {l : List Tok} {O U : Nat} {nm : ByteArray} {n p : Nat} {τ υ : PS} {wr w2 : World} (h : RkInv w P g cap l O U nm n p τ wr) (hO : w.heap.size ≤ O) (hU : O < U) (hP : P < w.heap.size) (h2 : RPost wr P g cap l υ w2) : RkInv w P g cap l O U nm n p υ w2 :=
  ⟨h.post.trans h2, blk_grown h.res h2.grown (by omega), blk_grown h.out h2.grown (by omega)⟩
theorem RkInv.below {w : World} {P g cap : Nat} {l : List Tok} {O U : Nat} {nm : ByteArray} {n p : Nat} {τ : PS} {wr w2 : World} (h : RkInv w P g cap l O U nm n p τ wr) (hb : Below wr.heap.size wr w2) : RkInv w P g cap l O U nm n p τ w2 :=
  ⟨h.post.below hb, blk_below h.res hb (blk_lt h.res), blk_below h.out hb (blk_lt h.out)⟩
theorem RkInv.put {w : World} {P g cap : Nat} {l : List Tok} {O U : Nat} {nm : ByteArray} {n p : Nat} {τ : PS} {wr : World} (h : RkInv w P g cap l O U nm n p τ wr) (hO : w.heap.size ≤ O) (hU : O < U) (hP : P < w.heap.size) (hg : g < w.heap.size) (m : Nat) : RkInv w P g cap l O U nm m p τ (wr.setCell ⟨U, 1, none⟩ (.int .i64 (m : Int))) :=
  ⟨h.post.far (by omega) hP hg 1 _, blk_set_ne h.res _ (by simp; omega) _, by rw [blk_set h.out]; rfl⟩
theorem RkInv.name {w : World} {P g cap : Nat} {l : List Tok} {O U : Nat} {nm : ByteArray} {n p : Nat} {τ : PS} {wr : World} (h : RkInv w P g cap l O U nm n p τ wr) (hO : w.heap.size ≤ O) (hU : O < U) (hP : P < w.heap.size) (hg : g < w.heap.size) (m : ByteArray) : RkInv w P g cap l O U m n p τ (wr.setCell ⟨U, 0, none⟩ (.string m)) :=
  ⟨h.post.far (by omega) hP hg 0 _, blk_set_ne h.res _ (by simp; omega) _, by rw [blk_set h.out]; rfl⟩
theorem wantN_stuck {l : List Tok} {s : ByteArray} : ∀ (n : Nat) {σ : PS}, σ.c ≠ 0 → wantN l s n σ = σ := by
  intro n
  induction n with
  | zero => intro σ h; rfl
  | succ n ih =>
    intro σ h
    have e : wantS l s σ = σ := by rw [wantS, if_neg (by rw [isT_fault h]; simp), failS_stuck h]
    show wantN l s n (wantS l s σ) = σ
    rw [e]; exact ih h

set_option maxHeartbeats 4000000 in
set_option maxRecDepth 100000 in
theorem rkind_calls (P g cap : Nat) (l : List Tok) (σ : PS) (w : World) (h : RAt w P g cap l σ) :
    Calls Tryd.prog 141 #[.pointer (some ⟨P, 0, none⟩)] w fun e w' => ∃ ty, e = .returned (rtyA ty) ∧ ((kindS l σ).c = 0 → ty = kindV l σ) ∧ RPost w P g cap l (kindS l σ) w' := by
  have lP := blk_lt h.blk
  have lg := h.toks.lt h.ended.1
  have hE := h.ended
  have HE := Lib.hid hE
  have H := Lib.hid h
  obtain ⟨t, ht⟩ : ∃ t, hereT l σ.a = t := ⟨_, rfl⟩
  have hh := fun (W : World) (h : RAt W P g cap l σ) => rhere_calls P g cap l σ W h
  rw [ht] at hh
  have HT := Lib.hid ht
  have HH := Lib.hid hh
  have kf := fun (w : World) (a b c : Value) => field_tok2 w a b c
  clear h hh ht hE
  go_enter Tryd.func141, Tryd.ntmps141
  go_wp2_with fail
  refine (HH.out _ (H.out.below (below1 _ _))).mono ?_
  rintro e w1 ⟨rfl, hB1⟩
  have hO1 := blk_below (blk_new w _) hB1 (by simp)
  have hz1 := hB1.size
  simp only [World.size_alloc] at hz1
  have HB1 := Lib.hid ((below1 w _).trans (hB1.mono (by simp)))
  have HO1 := Lib.hid hO1
  clear hO1 hB1
  simp only [tokA]
  go_wp2_with fail
  obtain ⟨O, hO⟩ : ∃ O, O = w.heap.size := ⟨_, rfl⟩
  obtain ⟨U, hU⟩ : ∃ U, U = w1.heap.size := ⟨_, rfl⟩
  have hI0 : RkInv w P g cap l O U ⟨#[]⟩ 0 t.pos σ (w1.alloc (Obj.cells #[Value.string { data := #[] }, Value.int IntKind.i64 0, Value.int IntKind.i64 ↑t.pos] 123)) :=
    ⟨(RPost.of_below H.out HB1.out).below (below1 _ _), by rw [hO]; exact blk_alloc HO1.out _, by rw [hU]; exact blk_new _ _⟩
  have hOU : O < U := by omega
  have hOw : w.heap.size ≤ O := by omega
  rw [← hO, ← hU]
  have HI0 := Lib.hid hI0
  clear hI0 hO hU
  have hz0 : kindK l σ = kindLoop l 5 0 σ := rfl
  have HZ0 := Lib.hid hz0
  clear hz0 hz1
  go_loopw [10] (fun _ wr => ∃ (f n : Nat) (τ : PS), f + n = 5 ∧ n ≤ 3 ∧ Hid (kindK l σ = kindLoop l f n τ) ∧ Hid (RkInv w P g cap l O U ⟨#[]⟩ n t.pos τ wr)) (fun _ wr => 5 - rtyN wr U)
  case atStart => exact ⟨5, 0, σ, rfl, by omega, HZ0.out, HI0.out⟩
  case round =>
    obtain ⟨f, n, τ, hfn, hn4, hk, hI⟩ := hrel
    have HRN := Lib.hid (rtyN_of hI.out.out)
    have hw := ris_calls P g cap l τ 1 cList wr hI.out.post.par
    have lPr := blk_lt hI.out.post.par.blk
    have lUr := blk_lt hI.out.out
    cases ht : isT l 1 cList τ with
    | true =>
      rw [ht] at hw
      have hkt := isT_kind ht
      obtain ⟨f', rfl⟩ : ∃ f', f = f' + 1 := ⟨f - 1, by omega⟩
      have hk2 : kindK l σ = kindLoop l f' (n + 1) (kindStep l n τ) := by rw [hk.out]; simp only [kindLoop]; rw [if_pos ht]
      have HFI := Lib.hid (fit_go HE.out hI.out.post.par.fit (by rw [hkt.2.1]; decide))
      have ha1 : (τ.a : Int) ≤ 100000 := by have := hI.out.post.par.fit; have := hI.out.post.par.small; omega
      have HK2 := Lib.hid hk2
      clear hk2 ht
      go_wp2_with fail
      refine hw.mono ?_
      rintro e w2 ⟨rfl, hB2⟩
      have hI2 := hI.out.below hB2
      have k0 : w2.cell? ⟨U, 0, none⟩ = some (.string ⟨#[]⟩) := by rw [blk_cell hI2.out]; rfl
      have k1 : w2.cell? ⟨U, 1, none⟩ = some (.int .i64 (n : Int)) := by rw [blk_cell hI2.out]; rfl
      have k2 : w2.cell? ⟨U, 2, none⟩ = some (.int .i64 (t.pos : Int)) := by rw [blk_cell hI2.out]; rfl
      have x0 : w2.frozen? ⟨U, 0, none⟩ = false := blk_frozen hI2.out _
      have x1 : w2.frozen? ⟨U, 1, none⟩ = false := blk_frozen hI2.out _
      have r0 : w2.cell? ⟨O, 0, none⟩ = some (.string ⟨#[]⟩) := by rw [blk_cell hI2.res]; rfl
      have r1 : w2.cell? ⟨O, 1, none⟩ = some (.int .i64 0) := by rw [blk_cell hI2.res]; rfl
      have r2 : w2.cell? ⟨O, 2, none⟩ = some (.int .i64 0) := by rw [blk_cell hI2.res]; rfl
      have z0 : w2.frozen? ⟨O, 0, none⟩ = false := blk_frozen hI2.res _
      have z1 : w2.frozen? ⟨O, 1, none⟩ = false := blk_frozen hI2.res _
      have z2 : w2.frozen? ⟨O, 2, none⟩ = false := blk_frozen hI2.res _
      have lO : O < w2.heap.size := blk_lt hI2.res
      have lU : U < w2.heap.size := blk_lt hI2.out
      have hbP := hI2.post.par.blk
      have p1 : w2.cell? ⟨P, 1, none⟩ = some (.int .i64 (τ.a : Int)) := by rw [blk_cell hbP]; rfl
      have y1 : w2.frozen? ⟨P, 1, none⟩ = false := blk_frozen hbP _
      have lP2 : P < w2.heap.size := blk_lt hbP
      have hPU : P ≠ U := by omega
      have hnI : (n : Int) ≤ 3 := by omega
      have HI2 := Lib.hid hI2
      clear hw hB2 hI2 hbP hkt
      by_cases hm : n = 3
      · have dm : ((n : Int) == 3) = true := by rw [beq_iff_eq]; omega
        have hst : kindStep l n τ = wantS l cLt (failS l 16 τ) := by unfold kindStep; rw [if_pos (by omega)]
        have hc := failS_c (l := l) (e := 16) (by decide) τ
        have e1 : wantS l cLt (failS l 16 τ) = failS l 16 τ := by rw [wantS, if_neg (by rw [isT_fault hc]; simp), failS_stuck hc]
        have e2 : ∀ f m, kindLoop l f m (failS l 16 τ) = (m, failS l 16 τ) := by
          intro f m
          cases f with
          | zero => rfl
          | succ f => simp only [kindLoop]; rw [if_neg (by rw [isT_fault hc]; simp)]
        have e3 : kindS l σ = failS l 16 τ := by
          rw [kindS, HK2.out, hst, e1, e2]
          simp only
          rw [show nameS l false (failS l 16 τ) = failS l 16 τ by rw [nameS, if_neg hc], wantN_stuck _ hc]
        have HE3 := Lib.hid e3
        have HC := Lib.hid hc
        clear hst hc e1 e2 e3 hm
        go_wp2_with fail
        refine (rbad_calls P g cap l τ 16 _ HI2.out.post.par).mono ?_
        rintro e w3 ⟨rfl, hp3⟩
        have hI3 := HI2.out.step hOw hOU lP hp3
        have HI3 := Lib.hid hI3
        clear k0 k1 k2 x0 x1 r0 r1 r2 z0 z1 z2 lO lU
        clear p1 y1 lP2 hp3
        have k0 : w3.cell? ⟨U, 0, none⟩ = some (.string ⟨#[]⟩) := by rw [blk_cell hI3.out]; rfl
        have k1 : w3.cell? ⟨U, 1, none⟩ = some (.int .i64 (n : Int)) := by rw [blk_cell hI3.out]; rfl
        have k2 : w3.cell? ⟨U, 2, none⟩ = some (.int .i64 (t.pos : Int)) := by rw [blk_cell hI3.out]; rfl
        have x0 : w3.frozen? ⟨U, 0, none⟩ = false := blk_frozen hI3.out _
        have x1 : w3.frozen? ⟨U, 1, none⟩ = false := blk_frozen hI3.out _
        have r0 : w3.cell? ⟨O, 0, none⟩ = some (.string ⟨#[]⟩) := by rw [blk_cell hI3.res]; rfl
        have r1 : w3.cell? ⟨O, 1, none⟩ = some (.int .i64 0) := by rw [blk_cell hI3.res]; rfl
        have r2 : w3.cell? ⟨O, 2, none⟩ = some (.int .i64 0) := by rw [blk_cell hI3.res]; rfl
        have z0 : w3.frozen? ⟨O, 0, none⟩ = false := blk_frozen hI3.res _
        have z1 : w3.frozen? ⟨O, 1, none⟩ = false := blk_frozen hI3.res _
        have z2 : w3.frozen? ⟨O, 2, none⟩ = false := blk_frozen hI3.res _
        have lO : O < w3.heap.size := blk_lt hI3.res
        have lU : U < w3.heap.size := blk_lt hI3.out
        clear hI3
        go_wp2_with fail
        refine bodyPost_ret (v := rtyA ⟨⟨#[]⟩, n, t.pos⟩) (by simp [results, Tryd.results141, go_sem, rtyA, *]) rfl ?_
        refine ⟨_, rfl, fun e => absurd (by rw [HE3.out] at e; exact e) HC.out, ?_⟩
        rw [HE3.out]
        exact ((HI3.out.post.far hOw lP lg 0 _).far hOw lP lg 1 _).far hOw lP lg 2 _
      · have dm : ((n : Int) == 3) = false := by rw [beq_eq_false_iff_ne]; omega
        have HKS := Lib.hid (show kindStep l n τ = wantS l cLt (goS τ) by unfold kindStep; rw [if_neg (by omega)])
        have hI3 := HI2.out.put hOw hOU lP lg (n + 1)
        have hI4 := hI3.step hOw hOU lP (rpar_go hI3.post.par HFI.out)
        have HI4 := Lib.hid hI4
        have HM := Lib.hid hm
        clear hI3 hI4 hm
        go_wp2_with fail
        refine (rwant_calls P g cap l _ cLt _ HI4.out.post.par).mono ?_
        rintro e w4 ⟨rfl, hp4⟩
        rw [← HKS.out] at hp4
        have HI6 := Lib.hid (HI4.out.step hOw hOU lP hp4)
        clear hp4
        clear k0 k1 k2 x0 x1 r0 r1 r2 z0 z1 z2 lO lU
        go_wp2_with fail
        have hr1 := rtyN_of HI6.out.out
        have hr2 := HRN.out
        have hm := HM.out
        refine ⟨⟨f', n + 1, kindStep l n τ, by omega, by omega, HK2.out, HI6.out⟩, by rw [hr1, hr2]; omega⟩
    | false =>
      rw [ht] at hw
      have hk2 : kindK l σ = (n, τ) := by
        rw [hk.out]
        cases f with
        | zero => rfl
        | succ f => simp only [kindLoop]; rw [if_neg (by rw [ht]; simp)]
      have HK2 := Lib.hid hk2
      clear hk2 ht
      go_wp2_with fail
      refine hw.mono ?_
      rintro e w2 ⟨rfl, hB2⟩
      have HI2 := Lib.hid (hI.out.below hB2)
      clear hw hB2
      go_wp2_with fail
      refine (rname_calls P g cap l τ false w2 HI2.out.post.par).mono ?_
      rintro e w3 ⟨rfl, hp3⟩
      have hI3 := HI2.out.step hOw hOU lP hp3
      obtain ⟨nm, hnm⟩ : ∃ nm, nm = nameV l false τ := ⟨_, rfl⟩
      obtain ⟨υ, hυ⟩ : ∃ υ, υ = nameS l false τ := ⟨_, rfl⟩
      rw [← hυ] at hI3
      rw [← hnm]
      have HV := Lib.hid (show kindV l σ = ⟨nm.text, n, t.pos⟩ by rw [kindV, HK2.out, HT.out, ← hnm])
      have HS := Lib.hid (show kindS l σ = wantN l cGt n υ by rw [kindS, HK2.out, ← hυ])
      have hI3a := hI3.below (below1 w3 (Obj.cells #[Value.int .i64 nm.kind, Value.string nm.text, Value.int .i64 (nm.pos : Int)] 102 (0, 0)))
      have k0 : w3.cell? ⟨U, 0, none⟩ = some (.string ⟨#[]⟩) := by rw [blk_cell hI3.out]; rfl
      have k1 : w3.cell? ⟨U, 1, none⟩ = some (.int .i64 (n : Int)) := by rw [blk_cell hI3.out]; rfl
      have k2 : w3.cell? ⟨U, 2, none⟩ = some (.int .i64 (t.pos : Int)) := by rw [blk_cell hI3.out]; rfl
      have x0 : w3.frozen? ⟨U, 0, none⟩ = false := blk_frozen hI3.out _
      have x1 : w3.frozen? ⟨U, 1, none⟩ = false := blk_frozen hI3.out _
      have r0 : w3.cell? ⟨O, 0, none⟩ = some (.string ⟨#[]⟩) := by rw [blk_cell hI3.res]; rfl
      have r1 : w3.cell? ⟨O, 1, none⟩ = some (.int .i64 0) := by rw [blk_cell hI3.res]; rfl
      have r2 : w3.cell? ⟨O, 2, none⟩ = some (.int .i64 0) := by rw [blk_cell hI3.res]; rfl
      have z0 : w3.frozen? ⟨O, 0, none⟩ = false := blk_frozen hI3.res _
      have z1 : w3.frozen? ⟨O, 1, none⟩ = false := blk_frozen hI3.res _
      have z2 : w3.frozen? ⟨O, 2, none⟩ = false := blk_frozen hI3.res _
      have lO : O < w3.heap.size := blk_lt hI3.res
      have lU : U < w3.heap.size := blk_lt hI3.out
      have hI4 := (hI3.name hOw hOU lP lg nm.text).below (below1 _ (Obj.cells #[Value.int .i64 nm.kind, Value.string nm.text, Value.int .i64 (nm.pos : Int)] 102 (0, 0)))
      have HI4 := Lib.hid hI4
      clear hp3 hnm hυ hI3 hI4 hI3a
      simp only [tokA]
      have hn4I : (n : Int) ≤ 4 := by omega
      go_wp2_with fail
      clear k0 k1 k2 x0 x1 r0 r1 r2 z0 z1 z2 lO lU
      rename World => wo
      go_loopw [5] (fun v5 wr => ∃ (k : Nat) (τ' : PS), k ≤ n ∧ v5 = .int .i64 (k : Int) ∧ Hid (wantN l cGt n υ = wantN l cGt (n - k) τ') ∧ Hid (RkInv w P g cap l O U nm.text n t.pos τ' wr)) (fun v5 _ => n - (intOf v5).toNat)
      case atStart => exact ⟨0, υ, by omega, rfl, rfl, HI4.out⟩
      case round =>
        obtain ⟨k, τ', hkn, rfl, hwn, hI⟩ := hrel
        have hkI : (k : Int) ≤ 4 := by omega
        have hI5 := hI.out
        have k0 : wr.cell? ⟨U, 0, none⟩ = some (.string nm.text) := by rw [blk_cell hI5.out]; rfl
        have k1 : wr.cell? ⟨U, 1, none⟩ = some (.int .i64 (n : Int)) := by rw [blk_cell hI5.out]; rfl
        have k2 : wr.cell? ⟨U, 2, none⟩ = some (.int .i64 (t.pos : Int)) := by rw [blk_cell hI5.out]; rfl
        have x0 : wr.frozen? ⟨U, 0, none⟩ = false := blk_frozen hI5.out _
        have x1 : wr.frozen? ⟨U, 1, none⟩ = false := blk_frozen hI5.out _
        have r0 : wr.cell? ⟨O, 0, none⟩ = some (.string ⟨#[]⟩) := by rw [blk_cell hI5.res]; rfl
        have r1 : wr.cell? ⟨O, 1, none⟩ = some (.int .i64 0) := by rw [blk_cell hI5.res]; rfl
        have r2 : wr.cell? ⟨O, 2, none⟩ = some (.int .i64 0) := by rw [blk_cell hI5.res]; rfl
        have z0 : wr.frozen? ⟨O, 0, none⟩ = false := blk_frozen hI5.res _
        have z1 : wr.frozen? ⟨O, 1, none⟩ = false := blk_frozen hI5.res _
        have z2 : wr.frozen? ⟨O, 2, none⟩ = false := blk_frozen hI5.res _
        have lO : O < wr.heap.size := blk_lt hI5.res
        have lU : U < wr.heap.size := blk_lt hI5.out
        by_cases hk : k < n
        · have dk : decide ((k : Int) < (n : Int)) = true := decide_eq_true (by omega)
          have hwn2 : wantN l cGt n υ = wantN l cGt (n - (k + 1)) (wantS l cGt τ') := by
            rw [hwn.out, show n - k = (n - (k + 1)) + 1 by omega]; rfl
          have HWN2 := Lib.hid hwn2
          clear hwn2 hI5
          go_wp2_with fail
          refine (rwant_calls P g cap l τ' cGt _ hI.out.post.par).mono ?_
          rintro e w5 ⟨rfl, hp5⟩
          have HI5 := Lib.hid (hI.out.step hOw hOU lP hp5)
          clear hp5
          go_wp2_with fail
          go_roundw
          case rel => exact ⟨k + 1, _, by omega, by go_num, HWN2.out, HI5.out⟩
          case measure => simp [intOf]; omega
        · have dk : decide ((k : Int) < (n : Int)) = false := decide_eq_false (by omega)
          have hwn2 : wantN l cGt n υ = τ' := by rw [hwn.out, show n - k = 0 by omega]; rfl
          have HWN2 := Lib.hid hwn2
          clear hwn2 hI5
          go_wp2_with fail
          refine bodyPost_ret (v := rtyA ⟨nm.text, n, t.pos⟩) (by simp [results, Tryd.results141, go_sem, rtyA, *]) rfl ?_
          refine ⟨_, rfl, fun _ => by rw [HV.out], ?_⟩
          rw [HS.out, HWN2.out]
          exact ((hI.out.post.far hOw lP lg 0 _).far hOw lP lg 1 _).far hOw lP lg 2 _

end Go.Proofs.YtgoaiokpnifhfaaDoor
