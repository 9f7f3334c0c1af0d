/-
  Parts: Idl2, Idl3, Idl4.
-/
import Derived.Test.YtgoaiokpnifhfaaDoorPkIdl1

/-
  Layer 4: the parser's steps: a fault, a sign, a word, a name.
-/
namespace Go.Proofs.YtgoaiokpnifhfaaDoor
open Go.RowKit
set_option linter.unusedVariables false
set_option linter.unusedSimpArgs false


theorem field_tok1 (w : World) (a b c : Value) : Sem.run Tryd.prog (Instr.field 102 (.agg #[a, b, c]) 1) w = .ok b w := by kernel_rfl
theorem field_tok2 (w : World) (a b c : Value) : Sem.run Tryd.prog (Instr.field 102 (.agg #[a, b, c]) 2) w = .ok c w := by kernel_rfl

theorem par_go {w : World} {P g cap : Nat} {l : List Tok} {σ : PS} (h : ParAt w P g cap l σ) (hf : Fine l (goS σ)) : ParPost w P g cap l (goS σ) (w.setCell ⟨P, 1, none⟩ (.int .i64 ((σ.a : Int) + 1))) := by
  have hb : (w.setCell ⟨P, 1, none⟩ (.int .i64 ((σ.a : Int) + 1))).heap[P]? = some (parB g cap l (goS σ)) := by
    rw [blk_set h.blk]; rfl
  have hg : w.grownBy (w.setCell ⟨P, 1, none⟩ (.int .i64 ((σ.a : Int) + 1))) (some P) := grown_set (World.grownBy.refl _ _) _ _
  exact ⟨hg, h.grown hg hb hf⟩
theorem par_fault {w : World} {P g cap : Nat} {l : List Tok} {σ : PS} (h : ParAt w P g cap l σ) (e : Int) (p : Nat) (he : e ≠ 0) :
    ParPost w P g cap l ⟨σ.a, e, p⟩ ((w.setCell ⟨P, 2, none⟩ (.int .i64 e)).setCell ⟨P, 3, none⟩ (.int .i64 (p : Int))) := by
  have hb : ((w.setCell ⟨P, 2, none⟩ (.int .i64 e)).setCell ⟨P, 3, none⟩ (.int .i64 (p : Int))).heap[P]? = some (parB g cap l ⟨σ.a, e, p⟩) := by
    have h1 := blk_set h.blk 2 (.int .i64 e)
    rw [blk_set h1]; rfl
  have hg : w.grownBy ((w.setCell ⟨P, 2, none⟩ (.int .i64 e)).setCell ⟨P, 3, none⟩ (.int .i64 (p : Int))) (some P) := grown_set (grown_set (World.grownBy.refl _ _) _ _) _ _
  exact ⟨hg, h.grown hg hb ⟨h.fine.1, fun e0 => absurd e0 he⟩⟩

theorem ParPost.far {w w2 : World} {P g cap : Nat} {l : List Tok} {τ : PS} (h : ParPost w P g cap l τ w2) {O : Nat} (hO : w.heap.size ≤ O) (hP : P < w.heap.size) (hg : g < w.heap.size) (j : Nat) (v : Value) : ParPost w P g cap l τ (w2.setCell ⟨O, j, none⟩ v) :=
  ⟨grown_far h.grown O j v hO, { h.par with blk := blk_set_ne h.par.blk _ (by simp; omega) _, toks := h.par.toks.kept (Below.heap_setCell _ _ _ _ (by simp; omega)) }⟩

set_option maxHeartbeats 1000000 in
set_option maxRecDepth 100000 in
theorem fail_calls (P g cap : Nat) (l : List Tok) (σ : PS) (c : Int) (hc : c ≠ 0) (w : World) (h : ParAt w P g cap l σ) :
    Calls Tryd.prog 140 #[.pointer (some ⟨P, 0, none⟩), .int .i64 c] w fun e w' => e = .returned (.tuple #[]) ∧ ParPost w P g cap l (failS l c σ) w' := by
  have hb := h.blk
  have p0 : w.cell? ⟨P, 0, none⟩ = some (.slice (some ⟨g, 0, none⟩) l.length cap) := by rw [blk_cell hb]; rfl
  have p1 : w.cell? ⟨P, 1, none⟩ = some (.int .i64 (σ.a : Int)) := by rw [blk_cell hb]; rfl
  have p2 : w.cell? ⟨P, 2, none⟩ = some (.int .i64 σ.c) := by rw [blk_cell hb]; rfl
  have p3 : w.cell? ⟨P, 3, none⟩ = some (.int .i64 (σ.p : Int)) := by rw [blk_cell hb]; rfl
  have y1 : w.frozen? ⟨P, 1, none⟩ = false := blk_frozen hb _
  have y2 : w.frozen? ⟨P, 2, none⟩ = false := blk_frozen hb _
  have y3 : w.frozen? ⟨P, 3, none⟩ = false := blk_frozen hb _
  have lP := blk_lt h.blk
  have H := Lib.hid h
  have HC := Lib.hid hc
  clear hb hc
  by_cases h0 : σ.c = 0
  · have b0 : (σ.c == 0) = true := by rw [beq_iff_eq]; exact h0
    have HF := Lib.hid (show failS l c σ = ⟨σ.a, c, (hereT l σ.a).pos⟩ by unfold failS; rw [if_pos h0])
    have hh := here_calls P g cap l σ w h
    clear h h0
    go_enter Tryd.func140, Tryd.ntmps140
    go_wp2_with fail
    refine hh.mono ?_
    rintro e w1 ⟨rfl, hB1⟩
    have h1 := H.out.below hB1
    have hb := h1.blk
    have z2 : w1.frozen? ⟨P, 2, none⟩ = false := blk_frozen hb _
    have z3 : w1.frozen? ⟨P, 3, none⟩ = false := blk_frozen hb _
    have z4 : w1.cell? ⟨P, 2, none⟩ = some (.int .i64 σ.c) := by rw [blk_cell hb]; rfl
    have z5 : w1.cell? ⟨P, 3, none⟩ = some (.int .i64 (σ.p : Int)) := by rw [blk_cell hb]; rfl
    have H1 := Lib.hid h1
    have HB1 := Lib.hid hB1
    clear hb h1 hB1 p0 p1 p2 p3 y1 y2 y3 hh
    simp only [tokA]
    have kf := fun (w : World) (a b c : Value) => field_tok2 w a b c
    go_wp2_with fail
    refine bodyPost_end (v := .tuple #[]) (by simp [results, Tryd.results140, go_sem]) rfl ?_
    exact ⟨rfl, by rw [HF.out]; exact (ParPost.of_below H.out HB1.out).trans (par_fault H1.out c _ HC.out)⟩
  · have b0 : (σ.c == 0) = false := by rw [beq_eq_false_iff_ne]; exact h0
    have HF := Lib.hid (show failS l c σ = σ from failS_stuck h0)
    clear h h0
    go_enter Tryd.func140, Tryd.ntmps140
    go_wp2_with fail
    refine bodyPost_end (v := .tuple #[]) (by simp [results, Tryd.results140, go_sem]) rfl ?_
    exact ⟨rfl, by rw [HF.out]; exact ParPost.of_below H.out (Below.refl _ _)⟩

set_option maxHeartbeats 1000000 in
set_option maxRecDepth 100000 in
theorem sign_calls (P g cap : Nat) (l : List Tok) (σ : PS) (s : ByteArray) (w : World) (h : ParAt w P g cap l σ) :
    Calls Tryd.prog 164 #[.pointer (some ⟨P, 0, none⟩), .string s] w fun e w' => e = .returned (.bool (isT l 4 s σ)) ∧ ParPost w P g cap l (takeS l 4 s σ) w' := by
  have hh := here_calls P g cap l σ w h
  have lP := blk_lt h.blk
  have H := Lib.hid h
  clear h
  go_enter Tryd.func164, Tryd.ntmps164
  go_wp2_with fail
  refine hh.mono ?_
  rintro e w1 ⟨rfl, hB1⟩
  have h1 := H.out.below hB1
  have hb := h1.blk
  have p0 : w1.cell? ⟨P, 0, none⟩ = some (.slice (some ⟨g, 0, none⟩) l.length cap) := by rw [blk_cell hb]; rfl
  have p1 : w1.cell? ⟨P, 1, none⟩ = some (.int .i64 (σ.a : Int)) := by rw [blk_cell hb]; rfl
  have p2 : w1.cell? ⟨P, 2, none⟩ = some (.int .i64 σ.c) := by rw [blk_cell hb]; rfl
  have p3 : w1.cell? ⟨P, 3, none⟩ = some (.int .i64 (σ.p : Int)) := by rw [blk_cell hb]; rfl
  have y1 : w1.frozen? ⟨P, 1, none⟩ = false := blk_frozen hb _
  have y2 : w1.frozen? ⟨P, 2, none⟩ = false := blk_frozen hb _
  have y3 : w1.frozen? ⟨P, 3, none⟩ = false := blk_frozen hb _
  have lP1 := blk_lt hb
  have H1 := Lib.hid h1
  have HB1 := Lib.hid hB1
  clear hb h1 hB1 hh
  simp only [tokA]
  have hF := @fine_go l H1.out.ended σ H1.out.fine
  have ha1 : (σ.a : Int) ≤ 100000 := by have := H1.out.fine.1; have := H1.out.small; omega
  have HF := Lib.hid hF
  clear hF
  go_wp2_with fail
  · rename_i h0 h1 h2
    go_ret
    have ht : isT l 4 s σ = false := by
      have h3 : eqS (hereT l σ.a).text s = false := by rw [eqS, ← Go.ByteArray.toList_eq, ← Go.ByteArray.toList_eq]; simpa using h2
      simp [isT, h3]
    exact ⟨by rw [ht]; rfl, by unfold takeS; rw [if_neg (by rw [ht]; simp)]; exact (ParPost.of_below H.out HB1.out).below (below1 _ _)⟩
  · rename_i h0 h1 h2
    go_ret
    have ht : isT l 4 s σ = true := by
      have h3 : eqS (hereT l σ.a).text s = true := by rw [eqS, ← Go.ByteArray.toList_eq, ← Go.ByteArray.toList_eq]; simpa using h2
      simp [isT, h3, h0, h1]
    exact ⟨by rw [ht]; rfl, by unfold takeS; rw [if_pos ht]; exact ((ParPost.of_below H.out HB1.out).trans (par_go H1.out (HF.out (by rw [h1]; decide)))).below (below1 _ _)⟩
  · rename_i h0 h1
    go_ret
    have ht : isT l 4 s σ = false := by simp [isT, h1]
    exact ⟨by rw [ht]; rfl, by unfold takeS; rw [if_neg (by rw [ht]; simp)]; exact (ParPost.of_below H.out HB1.out).below (below1 _ _)⟩
  · rename_i h0
    go_ret
    have ht : isT l 4 s σ = false := isT_fault h0
    exact ⟨by rw [ht]; rfl, by unfold takeS; rw [if_neg (by rw [ht]; simp)]; exact (ParPost.of_below H.out HB1.out).below (below1 _ _)⟩

set_option maxHeartbeats 1000000 in
set_option maxRecDepth 100000 in
theorem word_calls (P g cap : Nat) (l : List Tok) (σ : PS) (s : ByteArray) (w : World) (h : ParAt w P g cap l σ) :
    Calls Tryd.prog 135 #[.pointer (some ⟨P, 0, none⟩), .string s] w fun e w' => e = .returned (.bool (isT l 1 s σ)) ∧ ParPost w P g cap l (takeS l 1 s σ) w' := by
  have hh := here_calls P g cap l σ w h
  have lP := blk_lt h.blk
  have H := Lib.hid h
  clear h
  go_enter Tryd.func135, Tryd.ntmps135
  go_wp2_with fail
  refine hh.mono ?_
  rintro e w1 ⟨rfl, hB1⟩
  have h1 := H.out.below hB1
  have hb := h1.blk
  have p0 : w1.cell? ⟨P, 0, none⟩ = some (.slice (some ⟨g, 0, none⟩) l.length cap) := by rw [blk_cell hb]; rfl
  have p1 : w1.cell? ⟨P, 1, none⟩ = some (.int .i64 (σ.a : Int)) := by rw [blk_cell hb]; rfl
  have p2 : w1.cell? ⟨P, 2, none⟩ = some (.int .i64 σ.c) := by rw [blk_cell hb]; rfl
  have p3 : w1.cell? ⟨P, 3, none⟩ = some (.int .i64 (σ.p : Int)) := by rw [blk_cell hb]; rfl
  have y1 : w1.frozen? ⟨P, 1, none⟩ = false := blk_frozen hb _
  have y2 : w1.frozen? ⟨P, 2, none⟩ = false := blk_frozen hb _
  have y3 : w1.frozen? ⟨P, 3, none⟩ = false := blk_frozen hb _
  have lP1 := blk_lt hb
  have H1 := Lib.hid h1
  have HB1 := Lib.hid hB1
  clear hb h1 hB1 hh
  simp only [tokA]
  have hF := @fine_go l H1.out.ended σ H1.out.fine
  have ha1 : (σ.a : Int) ≤ 100000 := by have := H1.out.fine.1; have := H1.out.small; omega
  have HF := Lib.hid hF
  clear hF
  go_wp2_with fail
  · rename_i h0 h1 h2
    go_ret
    have ht : isT l 1 s σ = false := by
      have h3 : eqS (hereT l σ.a).text s = false := by rw [eqS, ← Go.ByteArray.toList_eq, ← Go.ByteArray.toList_eq]; simpa using h2
      simp [isT, h3]
    exact ⟨by rw [ht]; rfl, by unfold takeS; rw [if_neg (by rw [ht]; simp)]; exact (ParPost.of_below H.out HB1.out).below (below1 _ _)⟩
  · rename_i h0 h1 h2
    go_ret
    have ht : isT l 1 s σ = true := by
      have h3 : eqS (hereT l σ.a).text s = true := by rw [eqS, ← Go.ByteArray.toList_eq, ← Go.ByteArray.toList_eq]; simpa using h2
      simp [isT, h3, h0, h1]
    exact ⟨by rw [ht]; rfl, by unfold takeS; rw [if_pos ht]; exact ((ParPost.of_below H.out HB1.out).trans (par_go H1.out (HF.out (by rw [h1]; decide)))).below (below1 _ _)⟩
  · rename_i h0 h1
    go_ret
    have ht : isT l 1 s σ = false := by simp [isT, h1]
    exact ⟨by rw [ht]; rfl, by unfold takeS; rw [if_neg (by rw [ht]; simp)]; exact (ParPost.of_below H.out HB1.out).below (below1 _ _)⟩
  · rename_i h0
    go_ret
    have ht : isT l 1 s σ = false := isT_fault h0
    exact ⟨by rw [ht]; rfl, by unfold takeS; rw [if_neg (by rw [ht]; simp)]; exact (ParPost.of_below H.out HB1.out).below (below1 _ _)⟩

set_option maxHeartbeats 1000000 in
set_option maxRecDepth 100000 in
theorem want_calls (P g cap : Nat) (l : List Tok) (σ : PS) (s : ByteArray) (w : World) (h : ParAt w P g cap l σ) :
    Calls Tryd.prog 139 #[.pointer (some ⟨P, 0, none⟩), .string s] w fun e w' => e = .returned (.tuple #[]) ∧ ParPost w P g cap l (wantS l s σ) w' := by
  have hs := sign_calls P g cap l σ s w h
  cases ht : isT l 4 s σ with
  | true =>
    rw [ht] at hs
    have HW := Lib.hid (show wantS l s σ = takeS l 4 s σ by rw [wantS, takeS, if_pos ht, if_pos ht])
    clear ht h
    go_enter Tryd.func139, Tryd.ntmps139
    go_wp2_with fail
    refine hs.mono ?_
    rintro e w1 ⟨rfl, hp1⟩
    have HP1 := Lib.hid hp1
    clear hs hp1
    go_wp2_with fail
    refine bodyPost_end (v := .tuple #[]) (by simp [results, Tryd.results139, go_sem]) rfl ?_
    exact ⟨rfl, by rw [HW.out]; exact HP1.out⟩
  | false =>
    rw [ht] at hs
    have HW := Lib.hid (show wantS l s σ = failS l 11 σ by rw [wantS, if_neg (by rw [ht]; simp)])
    have HT := Lib.hid (show takeS l 4 s σ = σ by rw [takeS, if_neg (by rw [ht]; simp)])
    clear ht h
    go_enter Tryd.func139, Tryd.ntmps139
    go_wp2_with fail
    refine hs.mono ?_
    rintro e w1 ⟨rfl, hp1⟩
    rw [HT.out] at hp1
    have HP1 := Lib.hid hp1
    clear hs hp1
    go_wp2_with fail
    refine (fail_calls P g cap l σ 11 (by decide) w1 HP1.out.par).mono ?_
    rintro e w2 ⟨rfl, hp2⟩
    have HP2 := Lib.hid hp2
    clear hp2
    go_wp2_with fail
    refine bodyPost_end (v := .tuple #[]) (by simp [results, Tryd.results139, go_sem]) rfl ?_
    exact ⟨rfl, by rw [HW.out]; exact HP1.out.trans HP2.out⟩

set_option maxHeartbeats 2000000 in
set_option maxRecDepth 100000 in
theorem name_calls (P g cap : Nat) (l : List Tok) (σ : PS) (q : Bool) (w : World) (h : ParAt w P g cap l σ) :
    Calls Tryd.prog 138 #[.pointer (some ⟨P, 0, none⟩), .bool q] w fun e w' => e = .returned (tokA (nameV l q σ)) ∧ ParPost w P g cap l (nameS l q σ) w' := by
  have hh := fun (W : World) (h : ParAt W P g cap l σ) => here_calls P g cap l σ W h
  have hfl := fun (W : World) (h : ParAt W P g cap l σ) (e : Int) (he : e ≠ 0) => fail_calls P g cap l σ e he W h
  have lP := blk_lt h.blk
  have lg := h.toks.lt h.ended.1
  have hF := @fine_go l h.ended σ h.fine
  have HF := Lib.hid hF
  have ha1 : (σ.a : Int) ≤ 100000 := by have := h.fine.1; have := h.small; omega
  obtain ⟨t, ht⟩ : ∃ t, hereT l σ.a = t := ⟨_, rfl⟩
  have HTE := Lib.hid ht
  rw [ht] at hh
  have HH := Lib.hid hh
  have HFL := Lib.hid hfl
  have H := Lib.hid h
  clear h hh hfl hF ht
  go_enter Tryd.func138, Tryd.ntmps138
  go_wp2_with fail
  refine (HH.out _ (H.out.below (below1 _ _))).mono ?_
  rintro e w1 ⟨rfl, hB1⟩
  have h1 := (H.out.below (below1 _ _)).below hB1
  have hO1 := blk_below (blk_new w _) hB1 (by simp)
  have hz1 := hB1.size
  simp only [World.size_alloc] at hz1
  have HB1 := Lib.hid ((below1 w _).trans (hB1.mono (by simp)))
  obtain ⟨O, hO⟩ : ∃ O, O = w.heap.size := ⟨_, rfl⟩
  rw [← hO] at hO1 hz1 ⊢
  have hOw : w.heap.size ≤ O := by omega
  have hb := h1.blk
  have p0 : w1.cell? ⟨P, 0, none⟩ = some (.slice (some ⟨g, 0, none⟩) l.length cap) := by rw [blk_cell hb]; rfl
  have p1 : w1.cell? ⟨P, 1, none⟩ = some (.int .i64 (σ.a : Int)) := by rw [blk_cell hb]; rfl
  have p2 : w1.cell? ⟨P, 2, none⟩ = some (.int .i64 σ.c) := by rw [blk_cell hb]; rfl
  have p3 : w1.cell? ⟨P, 3, none⟩ = some (.int .i64 (σ.p : Int)) := by rw [blk_cell hb]; rfl
  have y1 : w1.frozen? ⟨P, 1, none⟩ = false := blk_frozen hb _
  have y2 : w1.frozen? ⟨P, 2, none⟩ = false := blk_frozen hb _
  have y3 : w1.frozen? ⟨P, 3, none⟩ = false := blk_frozen hb _
  have lP1 : P < w1.heap.size := blk_lt hb
  have lO1 : O < w1.heap.size := blk_lt hO1
  have hne : O ≠ P := by omega
  have o0 : w1.cell? ⟨O, 0, none⟩ = some (.int .i64 0) := by rw [blk_cell hO1]; rfl
  have o1 : w1.cell? ⟨O, 1, none⟩ = some (.string ⟨#[]⟩) := by rw [blk_cell hO1]; rfl
  have o2 : w1.cell? ⟨O, 2, none⟩ = some (.int .i64 0) := by rw [blk_cell hO1]; rfl
  have q0 : w1.frozen? ⟨O, 0, none⟩ = false := blk_frozen hO1 _
  have q1 : w1.frozen? ⟨O, 1, none⟩ = false := blk_frozen hO1 _
  have q2 : w1.frozen? ⟨O, 2, none⟩ = false := blk_frozen hO1 _
  have H1 := Lib.hid h1
  have HO1 := Lib.hid hO1
  clear hb h1 hB1 hO hO1
  simp only [tokA]
  have hzt : t.text.toList.isEmpty = decide (t.text.size = 0) := by
    have hl : t.text.data.toList.length = t.text.size := Array.length_toList
    rw [Go.ByteArray.toList_eq, ← hl]
    cases t.text.data.toList <;> simp
  by_cases h0 : σ.c = 0
  · have b0 : (σ.c != 0) = false := by rw [bne_eq_false_iff_eq]; exact h0
    by_cases hk : t.kind = 1 ∨ (q = true ∧ t.kind = 3)
    · have hnb : nameBad l q σ = false := by
        rw [nameBad, HTE.out]
        rcases hk with e | ⟨e, e'⟩
        · simp [e]
        · simp [e, e']
      have hk0 : t.kind ≠ 0 := by rcases hk with e | ⟨_, e⟩ <;> rw [e] <;> decide
      have HNB := Lib.hid hnb
      have HK0 := Lib.hid hk0
      by_cases h40 : 40 < t.text.size
      · have d40 : decide ((40 : Int) < (t.text.size : Int)) = true := decide_eq_true (by omega)
        have hnl : nameLong l σ = true := by rw [nameLong, HTE.out, decide_eq_true h40]; rfl
        clear hzt hnb hk0
        rcases hk with e | ⟨rfl, e'⟩
        · have b2 : (t.kind != 1) = false := by rw [e]; rfl
          clear e
          have HV := Lib.hid (show nameV l q σ = tok0 from (by rw [nameV, if_pos h0, if_neg (by rw [HNB.out]; simp), if_pos hnl]))
          have HS := Lib.hid (show nameS l q σ = failS l 12 σ from (by rw [nameS, if_pos h0, if_neg (by rw [HNB.out]; simp), if_pos hnl]))
          clear hnl h0 h40
          go_wp2_with fail
          refine (HFL.out _ (H1.out.below (below1 _ _)) 12 (by decide)).mono ?_
          rintro e w2 ⟨rfl, hp2⟩
          have hO2 := blk_grown (blk_alloc HO1.out _) hp2.grown hne
          have o0' : w2.cell? ⟨O, 0, none⟩ = some (.int .i64 0) := by rw [blk_cell hO2]; rfl
          have o1' : w2.cell? ⟨O, 1, none⟩ = some (.string ⟨#[]⟩) := by rw [blk_cell hO2]; rfl
          have o2' : w2.cell? ⟨O, 2, none⟩ = some (.int .i64 0) := by rw [blk_cell hO2]; rfl
          have q0' : w2.frozen? ⟨O, 0, none⟩ = false := blk_frozen hO2 _
          have q1' : w2.frozen? ⟨O, 1, none⟩ = false := blk_frozen hO2 _
          have q2' : w2.frozen? ⟨O, 2, none⟩ = false := blk_frozen hO2 _
          have HP2 := Lib.hid ((((ParPost.of_below H.out HB1.out).below (below1 _ _)).trans hp2))
          clear hO2 hp2
          clear p0 p1 p2 p3 y1 y2 y3 o0 o1 o2 q0 q1 q2
          go_wp2_with fail
          refine bodyPost_ret (v := tokA tok0) (by simp [results, Tryd.results138, go_sem, tokA, tok0, *]) rfl ?_
          exact ⟨by rw [HV.out], by rw [HS.out]; exact ((HP2.out.far hOw lP lg 0 _).far hOw lP lg 1 _).far hOw lP lg 2 _⟩
        · have b2 : (t.kind != 1) = true := by rw [e']; rfl
          have b3 : (t.kind != 3) = false := by rw [e']; rfl
          clear e'
          have HV := Lib.hid (show nameV l true σ = tok0 from (by rw [nameV, if_pos h0, if_neg (by rw [HNB.out]; simp), if_pos hnl]))
          have HS := Lib.hid (show nameS l true σ = failS l 12 σ from (by rw [nameS, if_pos h0, if_neg (by rw [HNB.out]; simp), if_pos hnl]))
          clear hnl h0 h40
          go_wp2_with fail
          refine (HFL.out _ (H1.out.below (below1 _ _)) 12 (by decide)).mono ?_
          rintro e w2 ⟨rfl, hp2⟩
          have hO2 := blk_grown (blk_alloc HO1.out _) hp2.grown hne
          have o0' : w2.cell? ⟨O, 0, none⟩ = some (.int .i64 0) := by rw [blk_cell hO2]; rfl
          have o1' : w2.cell? ⟨O, 1, none⟩ = some (.string ⟨#[]⟩) := by rw [blk_cell hO2]; rfl
          have o2' : w2.cell? ⟨O, 2, none⟩ = some (.int .i64 0) := by rw [blk_cell hO2]; rfl
          have q0' : w2.frozen? ⟨O, 0, none⟩ = false := blk_frozen hO2 _
          have q1' : w2.frozen? ⟨O, 1, none⟩ = false := blk_frozen hO2 _
          have q2' : w2.frozen? ⟨O, 2, none⟩ = false := blk_frozen hO2 _
          have HP2 := Lib.hid ((((ParPost.of_below H.out HB1.out).below (below1 _ _)).trans hp2))
          clear hO2 hp2
          clear p0 p1 p2 p3 y1 y2 y3 o0 o1 o2 q0 q1 q2
          go_wp2_with fail
          refine bodyPost_ret (v := tokA tok0) (by simp [results, Tryd.results138, go_sem, tokA, tok0, *]) rfl ?_
          exact ⟨by rw [HV.out], by rw [HS.out]; exact ((HP2.out.far hOw lP lg 0 _).far hOw lP lg 1 _).far hOw lP lg 2 _⟩
      · have d40 : decide ((40 : Int) < (t.text.size : Int)) = false := decide_eq_false (by omega)
        by_cases hz : t.text.size = 0
        · rw [decide_eq_true hz] at hzt
          have hnl : nameLong l σ = true := by rw [nameLong, HTE.out, decide_eq_true hz]; simp
          clear hnb hk0
          rcases hk with e | ⟨rfl, e'⟩
          · have b2 : (t.kind != 1) = false := by rw [e]; rfl
            clear e
            have HV := Lib.hid (show nameV l q σ = tok0 from (by rw [nameV, if_pos h0, if_neg (by rw [HNB.out]; simp), if_pos hnl]))
            have HS := Lib.hid (show nameS l q σ = failS l 12 σ from (by rw [nameS, if_pos h0, if_neg (by rw [HNB.out]; simp), if_pos hnl]))
            clear hnl h0 h40 hz
            go_wp2_with fail
            refine (HFL.out _ (H1.out.below (below1 _ _)) 12 (by decide)).mono ?_
            rintro e w2 ⟨rfl, hp2⟩
            have hO2 := blk_grown (blk_alloc HO1.out _) hp2.grown hne
            have o0' : w2.cell? ⟨O, 0, none⟩ = some (.int .i64 0) := by rw [blk_cell hO2]; rfl
            have o1' : w2.cell? ⟨O, 1, none⟩ = some (.string ⟨#[]⟩) := by rw [blk_cell hO2]; rfl
            have o2' : w2.cell? ⟨O, 2, none⟩ = some (.int .i64 0) := by rw [blk_cell hO2]; rfl
            have q0' : w2.frozen? ⟨O, 0, none⟩ = false := blk_frozen hO2 _
            have q1' : w2.frozen? ⟨O, 1, none⟩ = false := blk_frozen hO2 _
            have q2' : w2.frozen? ⟨O, 2, none⟩ = false := blk_frozen hO2 _
            have HP2 := Lib.hid ((((ParPost.of_below H.out HB1.out).below (below1 _ _)).trans hp2))
            clear hO2 hp2
            clear p0 p1 p2 p3 y1 y2 y3 o0 o1 o2 q0 q1 q2
            go_wp2_with fail
            refine bodyPost_ret (v := tokA tok0) (by simp [results, Tryd.results138, go_sem, tokA, tok0, *]) rfl ?_
            exact ⟨by rw [HV.out], by rw [HS.out]; exact ((HP2.out.far hOw lP lg 0 _).far hOw lP lg 1 _).far hOw lP lg 2 _⟩
          · have b2 : (t.kind != 1) = true := by rw [e']; rfl
            have b3 : (t.kind != 3) = false := by rw [e']; rfl
            clear e'
            have HV := Lib.hid (show nameV l true σ = tok0 from (by rw [nameV, if_pos h0, if_neg (by rw [HNB.out]; simp), if_pos hnl]))
            have HS := Lib.hid (show nameS l true σ = failS l 12 σ from (by rw [nameS, if_pos h0, if_neg (by rw [HNB.out]; simp), if_pos hnl]))
            clear hnl h0 h40 hz
            go_wp2_with fail
            refine (HFL.out _ (H1.out.below (below1 _ _)) 12 (by decide)).mono ?_
            rintro e w2 ⟨rfl, hp2⟩
            have hO2 := blk_grown (blk_alloc HO1.out _) hp2.grown hne
            have o0' : w2.cell? ⟨O, 0, none⟩ = some (.int .i64 0) := by rw [blk_cell hO2]; rfl
            have o1' : w2.cell? ⟨O, 1, none⟩ = some (.string ⟨#[]⟩) := by rw [blk_cell hO2]; rfl
            have o2' : w2.cell? ⟨O, 2, none⟩ = some (.int .i64 0) := by rw [blk_cell hO2]; rfl
            have q0' : w2.frozen? ⟨O, 0, none⟩ = false := blk_frozen hO2 _
            have q1' : w2.frozen? ⟨O, 1, none⟩ = false := blk_frozen hO2 _
            have q2' : w2.frozen? ⟨O, 2, none⟩ = false := blk_frozen hO2 _
            have HP2 := Lib.hid ((((ParPost.of_below H.out HB1.out).below (below1 _ _)).trans hp2))
            clear hO2 hp2
            clear p0 p1 p2 p3 y1 y2 y3 o0 o1 o2 q0 q1 q2
            go_wp2_with fail
            refine bodyPost_ret (v := tokA tok0) (by simp [results, Tryd.results138, go_sem, tokA, tok0, *]) rfl ?_
            exact ⟨by rw [HV.out], by rw [HS.out]; exact ((HP2.out.far hOw lP lg 0 _).far hOw lP lg 1 _).far hOw lP lg 2 _⟩
        · rw [decide_eq_false hz] at hzt
          have hnl : nameLong l σ = false := by rw [nameLong, HTE.out, decide_eq_false hz, decide_eq_false h40]; rfl
          clear hnb hk0
          rcases hk with e | ⟨rfl, e'⟩
          · have b2 : (t.kind != 1) = false := by rw [e]; rfl
            clear e
            have HV := Lib.hid (show nameV l q σ = t from (by rw [nameV, if_pos h0, if_neg (by rw [HNB.out]; simp), if_neg (by rw [hnl]; simp), HTE.out]))
            have HS := Lib.hid (show nameS l q σ = goS σ from (by rw [nameS, if_pos h0, if_neg (by rw [HNB.out]; simp), if_neg (by rw [hnl]; simp)]))
            have hfg := HF.out (by rw [HTE.out]; exact HK0.out)
            have HFG := Lib.hid hfg
            clear hfg hnl h0 h40 hz
            go_wp2_with fail
            refine bodyPost_ret (v := tokA t) (by simp [results, Tryd.results138, go_sem, tokA, *]) rfl ?_
            refine ⟨by rw [HV.out], ?_⟩
            rw [HS.out]
            have HP := (ParPost.of_below H.out HB1.out).trans (par_go H1.out HFG.out)
            exact (((HP.far hOw lP lg 0 _).far hOw lP lg 1 _).far hOw lP lg 2 _).below (below1 _ _)
          · have b2 : (t.kind != 1) = true := by rw [e']; rfl
            have b3 : (t.kind != 3) = false := by rw [e']; rfl
            clear e'
            have HV := Lib.hid (show nameV l true σ = t from (by rw [nameV, if_pos h0, if_neg (by rw [HNB.out]; simp), if_neg (by rw [hnl]; simp), HTE.out]))
            have HS := Lib.hid (show nameS l true σ = goS σ from (by rw [nameS, if_pos h0, if_neg (by rw [HNB.out]; simp), if_neg (by rw [hnl]; simp)]))
            have hfg := HF.out (by rw [HTE.out]; exact HK0.out)
            have HFG := Lib.hid hfg
            clear hfg hnl h0 h40 hz
            go_wp2_with fail
            refine bodyPost_ret (v := tokA t) (by simp [results, Tryd.results138, go_sem, tokA, *]) rfl ?_
            refine ⟨by rw [HV.out], ?_⟩
            rw [HS.out]
            have HP := (ParPost.of_below H.out HB1.out).trans (par_go H1.out HFG.out)
            exact (((HP.far hOw lP lg 0 _).far hOw lP lg 1 _).far hOw lP lg 2 _).below (below1 _ _)
    · have hk1 : ¬ t.kind = 1 := fun e => hk (.inl e)
      have b2 : (t.kind != 1) = true := by rw [bne_iff_ne]; exact hk1
      clear hzt
      cases q with
      | true =>
        have hk3 : ¬ t.kind = 3 := fun e => hk (.inr ⟨rfl, e⟩)
        have b3 : (t.kind != 3) = true := by rw [bne_iff_ne]; exact hk3
        have hnb : nameBad l true σ = true := by rw [nameBad, HTE.out, decide_eq_false hk1, decide_eq_false hk3]; rfl
        clear hk hk1 hk3
        have HV := Lib.hid (show nameV l true σ = tok0 from (by rw [nameV, if_pos h0, if_pos hnb]))
        have HS := Lib.hid (show nameS l true σ = failS l 11 σ from (by rw [nameS, if_pos h0, if_pos hnb]))
        clear hnb h0
        go_wp2_with fail
        refine (HFL.out _ (H1.out.below (below1 _ _)) 11 (by decide)).mono ?_
        rintro e w2 ⟨rfl, hp2⟩
        have hO2 := blk_grown (blk_alloc HO1.out _) hp2.grown hne
        have o0' : w2.cell? ⟨O, 0, none⟩ = some (.int .i64 0) := by rw [blk_cell hO2]; rfl
        have o1' : w2.cell? ⟨O, 1, none⟩ = some (.string ⟨#[]⟩) := by rw [blk_cell hO2]; rfl
        have o2' : w2.cell? ⟨O, 2, none⟩ = some (.int .i64 0) := by rw [blk_cell hO2]; rfl
        have q0' : w2.frozen? ⟨O, 0, none⟩ = false := blk_frozen hO2 _
        have q1' : w2.frozen? ⟨O, 1, none⟩ = false := blk_frozen hO2 _
        have q2' : w2.frozen? ⟨O, 2, none⟩ = false := blk_frozen hO2 _
        have HP2 := Lib.hid ((((ParPost.of_below H.out HB1.out).below (below1 _ _)).trans hp2))
        clear hO2 hp2
        clear p0 p1 p2 p3 y1 y2 y3 o0 o1 o2 q0 q1 q2
        go_wp2_with fail
        refine bodyPost_ret (v := tokA tok0) (by simp [results, Tryd.results138, go_sem, tokA, tok0, *]) rfl ?_
        exact ⟨by rw [HV.out], by rw [HS.out]; exact ((HP2.out.far hOw lP lg 0 _).far hOw lP lg 1 _).far hOw lP lg 2 _⟩
      | false =>
        have hnb : nameBad l false σ = true := by rw [nameBad, HTE.out, decide_eq_false hk1]; rfl
        clear hk hk1
        have HV := Lib.hid (show nameV l false σ = tok0 from (by rw [nameV, if_pos h0, if_pos hnb]))
        have HS := Lib.hid (show nameS l false σ = failS l 11 σ from (by rw [nameS, if_pos h0, if_pos hnb]))
        clear hnb h0
        go_wp2_with fail
        refine (HFL.out _ (H1.out.below (below1 _ _)) 11 (by decide)).mono ?_
        rintro e w2 ⟨rfl, hp2⟩
        have hO2 := blk_grown (blk_alloc HO1.out _) hp2.grown hne
        have o0' : w2.cell? ⟨O, 0, none⟩ = some (.int .i64 0) := by rw [blk_cell hO2]; rfl
        have o1' : w2.cell? ⟨O, 1, none⟩ = some (.string ⟨#[]⟩) := by rw [blk_cell hO2]; rfl
        have o2' : w2.cell? ⟨O, 2, none⟩ = some (.int .i64 0) := by rw [blk_cell hO2]; rfl
        have q0' : w2.frozen? ⟨O, 0, none⟩ = false := blk_frozen hO2 _
        have q1' : w2.frozen? ⟨O, 1, none⟩ = false := blk_frozen hO2 _
        have q2' : w2.frozen? ⟨O, 2, none⟩ = false := blk_frozen hO2 _
        have HP2 := Lib.hid ((((ParPost.of_below H.out HB1.out).below (below1 _ _)).trans hp2))
        clear hO2 hp2
        clear p0 p1 p2 p3 y1 y2 y3 o0 o1 o2 q0 q1 q2
        go_wp2_with fail
        refine bodyPost_ret (v := tokA tok0) (by simp [results, Tryd.results138, go_sem, tokA, tok0, *]) rfl ?_
        exact ⟨by rw [HV.out], by rw [HS.out]; exact ((HP2.out.far hOw lP lg 0 _).far hOw lP lg 1 _).far hOw lP lg 2 _⟩
  · have b0 : (σ.c != 0) = true := by rw [bne_iff_ne]; exact h0
    have HV := Lib.hid (show nameV l q σ = tok0 by rw [nameV, if_neg h0])
    have HS := Lib.hid (show nameS l q σ = σ by rw [nameS, if_neg h0])
    clear hzt h0
    go_wp2_with fail
    refine bodyPost_ret (v := tokA tok0) (by simp [results, Tryd.results138, go_sem, tokA, tok0, *]) rfl ?_
    exact ⟨by rw [HV.out], by rw [HS.out]; exact ((((ParPost.of_below H.out HB1.out).far hOw lP lg 0 _).far hOw lP lg 1 _).far hOw lP lg 2 _).below (below1 _ _)⟩

end Go.Proofs.YtgoaiokpnifhfaaDoor

/-
  Layer 4: a type.
-/
namespace Go.Proofs.YtgoaiokpnifhfaaDoor
open Go.RowKit
set_option linter.unusedVariables false
set_option linter.unusedSimpArgs false

theorem par_seta {w : World} {P g cap : Nat} {l : List Tok} {σ : PS} (h : ParAt w P g cap l σ) (a : Nat) (hf : Fine l ⟨a, σ.c, σ.p⟩) : ParPost w P g cap l ⟨a, σ.c, σ.p⟩ (w.setCell ⟨P, 1, none⟩ (.int .i64 (a : Int))) := by
  have hb : (w.setCell ⟨P, 1, none⟩ (.int .i64 (a : Int))).heap[P]? = some (parB g cap l ⟨a, σ.c, σ.p⟩) := by
    rw [blk_set h.blk]; rfl
  have hg : w.grownBy (w.setCell ⟨P, 1, none⟩ (.int .i64 (a : Int))) (some P) := grown_set (World.grownBy.refl _ _) _ _
  exact ⟨hg, h.grown hg hb hf⟩

/-- a written type, as cells -/
def rtyB (nm : ByteArray) (n : Nat) (p : Nat) : Obj := .cells #[.string nm, .int .i64 (n : Int), .int .i64 (p : Int)] 123 (0, 0)
def rtyA (t : RTy) : Value := .agg #[.string t.name, .int .i64 (t.lists : Int), .int .i64 (t.pos : Int)]
def rtyN (w : World) (O : Nat) : Nat := (intOf ((w.cell? ⟨O, 1, none⟩).getD undef)).toNat
theorem rtyN_of {w : World} {O : Nat} {nm : ByteArray} {n p : Nat} (h : w.heap[O]? = some (rtyB nm n p)) : rtyN w O = n := by
  have : w.cell? ⟨O, 1, none⟩ = some (.int .i64 (n : Int)) := by rw [blk_cell h]; rfl
  simp [rtyN, this, intOf]

/-- where the type's reading stands -/
structure KdInv (w : World) (P g cap : Nat) (l : List Tok) (O U : Nat) (nm : ByteArray) (n p : Nat) (τ : PS) (wr : World) : Prop where
  post : ParPost w P g cap l τ wr
  res : wr.heap[O]? = some (rtyB ⟨#[]⟩ 0 0)
  out : wr.heap[U]? = some (rtyB nm n p)
theorem KdInv.step {w : World} {P g cap : Nat} {l : List Tok} {O U : Nat} {nm : ByteArray} {n p : Nat} {τ υ : PS} {wr w2 : World} (h : KdInv w P g cap l O U nm n p τ wr) (hO : w.heap.size ≤ O) (hU : O < U) (hP : P < w.heap.size) (h2 : ParPost wr P g cap l υ w2) : KdInv w P g cap l O U nm n p υ w2 :=
  ⟨h.post.trans h2, blk_grown h.res h2.grown (by omega), blk_grown h.out h2.grown (by omega)⟩
theorem KdInv.put {w : World} {P g cap : Nat} {l : List Tok} {O U : Nat} {nm : ByteArray} {n p : Nat} {τ : PS} {wr : World} (h : KdInv w P g cap l O U nm n p τ wr) (hO : w.heap.size ≤ O) (hU : O < U) (hP : P < w.heap.size) (hg : g < w.heap.size) (m : Nat) : KdInv w P g cap l O U nm m p τ (wr.setCell ⟨U, 1, none⟩ (.int .i64 (m : Int))) :=
  ⟨h.post.far (by omega) hP hg 1 _, blk_set_ne h.res _ (by simp; omega) _, by rw [blk_set h.out]; rfl⟩
theorem KdInv.name {w : World} {P g cap : Nat} {l : List Tok} {O U : Nat} {nm : ByteArray} {n p : Nat} {τ : PS} {wr : World} (h : KdInv w P g cap l O U nm n p τ wr) (hO : w.heap.size ≤ O) (hU : O < U) (hP : P < w.heap.size) (hg : g < w.heap.size) (m : ByteArray) : KdInv w P g cap l O U m n p τ (wr.setCell ⟨U, 0, none⟩ (.string m)) :=
  ⟨h.post.far (by omega) hP hg 0 _, blk_set_ne h.res _ (by simp; omega) _, by rw [blk_set h.out]; rfl⟩

set_option maxHeartbeats 4000000 in
set_option maxRecDepth 100000 in
theorem kind_calls (P g cap : Nat) (l : List Tok) (σ : PS) (w : World) (h : ParAt w P g cap l σ) :
    Calls Tryd.prog 163 #[.pointer (some ⟨P, 0, none⟩)] w fun e w' => e = .returned (rtyA (kindV l σ)) ∧ ParPost w P g cap l (kindS l σ) w' := by
  have lP := blk_lt h.blk
  have lg := h.toks.lt h.ended.1
  have hE := h.ended
  have HE := Lib.hid hE
  have H := Lib.hid h
  have hps : hereT l σ.a = hereT l σ.a := rfl
  obtain ⟨t, ht⟩ : ∃ t, hereT l σ.a = t := ⟨_, rfl⟩
  have hh := fun (W : World) (h : ParAt W P g cap l σ) => here_calls P g cap l σ W h
  rw [ht] at hh
  have HT := Lib.hid ht
  have HH := Lib.hid hh
  have kf := fun (w : World) (a b c : Value) => field_tok2 w a b c
  have kf1 := fun (w : World) (a b c : Value) => field_tok1 w a b c
  clear h hh ht hE hps
  go_enter Tryd.func163, Tryd.ntmps163
  go_wp2_with fail
  refine (HH.out _ (H.out.below (below1 _ _))).mono ?_
  rintro e w1 ⟨rfl, hB1⟩
  have h1 := (H.out.below (below1 _ _)).below hB1
  have hO1 := blk_below (blk_new w _) hB1 (by simp)
  have hz1 := hB1.size
  simp only [World.size_alloc] at hz1
  have HB1 := Lib.hid ((below1 w _).trans (hB1.mono (by simp)))
  have HO1 := Lib.hid hO1
  clear hO1 h1 hB1
  simp only [tokA]
  go_wp2_with fail
  obtain ⟨O, hO⟩ : ∃ O, O = w.heap.size := ⟨_, rfl⟩
  obtain ⟨U, hU⟩ : ∃ U, U = w1.heap.size := ⟨_, rfl⟩
  have hI0 : KdInv w P g cap l O U ⟨#[]⟩ 0 t.pos σ (w1.alloc (Obj.cells #[Value.string { data := #[] }, Value.int IntKind.i64 0, Value.int IntKind.i64 ↑t.pos] 123)) :=
    ⟨(ParPost.of_below H.out HB1.out).below (below1 _ _), by rw [hO]; exact blk_alloc HO1.out _, by rw [hU]; exact blk_new _ _⟩
  have hOU : O < U := by omega
  have hOw : w.heap.size ≤ O := by omega
  rw [← hO, ← hU]
  have HI0 := Lib.hid hI0
  clear hI0 hO hU
  have hz0 : kindK l σ = kindLoop l 5 0 σ := rfl
  have HZ0 := Lib.hid hz0
  clear hz0 hz1
  go_loopw [8] (fun _ wr => ∃ (f n : Nat) (τ : PS), f + n = 5 ∧ n ≤ 4 ∧ Hid (n = 4 → τ.c ≠ 0) ∧ Hid (kindK l σ = kindLoop l f n τ) ∧ Hid (KdInv w P g cap l O U ⟨#[]⟩ n t.pos τ wr)) (fun _ wr => 5 - rtyN wr U)
  case atStart => exact ⟨5, 0, σ, rfl, by omega, fun e => by omega, HZ0.out, HI0.out⟩
  case round =>
    obtain ⟨f, n, τ, hfn, hn4, h4, hk, hI⟩ := hrel
    have HRN := Lib.hid (rtyN_of hI.out.out)
    have hw := word_calls P g cap l τ cList wr hI.out.post.par
    have lPr := blk_lt hI.out.post.par.blk
    have lUr := blk_lt hI.out.out
    cases ht : isT l 1 cList τ with
    | true =>
      rw [ht] at hw
      have hf := fine_go HE.out hI.out.post.par.fine (by rw [(isT_kind ht).2.1]; decide)
      have hkt := isT_kind ht
      have hn3 : n < 4 := by
        by_cases e : n = 4
        · exact absurd hkt.1 (h4.out e)
        · omega
      obtain ⟨f', rfl⟩ : ∃ f', f = f' + 1 := ⟨f - 1, by omega⟩
      have hmv := kindStep_moves HE.out (n := n) hI.out.post.par.fine ht
      have hk2 : kindK l σ = kindLoop l f' (n + 1) (kindStep l n τ) := by rw [hk.out]; simp only [kindLoop]; rw [if_pos ht]
      have htk : takeS l 1 cList τ = goS τ := by rw [takeS, if_pos ht]
      rw [htk] at hw
      have HK2 := Lib.hid hk2
      have HMV := Lib.hid hmv
      have HF := Lib.hid hf
      clear hk2 hmv htk hkt ht hf
      go_wp2_with fail
      refine hw.mono ?_
      rintro e w2 ⟨rfl, hp2⟩
      have hI2 := hI.out.step hOw hOU lP hp2
      have k0 : w2.cell? ⟨U, 0, none⟩ = some (.string ⟨#[]⟩) := by rw [blk_cell hI2.out]; rfl
      have k1 : w2.cell? ⟨U, 1, none⟩ = some (.int .i64 (n : Int)) := by rw [blk_cell hI2.out]; rfl
      have k2 : w2.cell? ⟨U, 2, none⟩ = some (.int .i64 (t.pos : Int)) := by rw [blk_cell hI2.out]; rfl
      have x0 : w2.frozen? ⟨U, 0, none⟩ = false := blk_frozen hI2.out _
      have x1 : w2.frozen? ⟨U, 1, none⟩ = false := blk_frozen hI2.out _
      have r0 : w2.cell? ⟨O, 0, none⟩ = some (.string ⟨#[]⟩) := by rw [blk_cell hI2.res]; rfl
      have r1 : w2.cell? ⟨O, 1, none⟩ = some (.int .i64 0) := by rw [blk_cell hI2.res]; rfl
      have r2 : w2.cell? ⟨O, 2, none⟩ = some (.int .i64 0) := by rw [blk_cell hI2.res]; rfl
      have z0 : w2.frozen? ⟨O, 0, none⟩ = false := blk_frozen hI2.res _
      have z1 : w2.frozen? ⟨O, 1, none⟩ = false := blk_frozen hI2.res _
      have z2 : w2.frozen? ⟨O, 2, none⟩ = false := blk_frozen hI2.res _
      have hbP := hI2.post.par.blk
      have p1 : w2.cell? ⟨P, 1, none⟩ = some (.int .i64 ((τ.a : Int) + 1)) := by rw [blk_cell hbP]; rfl
      have y1 : w2.frozen? ⟨P, 1, none⟩ = false := blk_frozen hbP _
      have hPU : P ≠ U := by omega
      have hnI : (n : Int) ≤ 4 := by omega
      have ha1 : (τ.a : Int) ≤ 100000 := by have := hI.out.post.par.fine.1; have := hI.out.post.par.small; omega
      have hfa := hI.out.post.par.fine
      have HFA := Lib.hid hfa
      have HI2 := Lib.hid hI2
      clear hw hp2 hI2 hbP hfa
      have hI3 := HI2.out.put hOw hOU lP lg (n + 1)
      by_cases hm : 3 < n + 1
      · have dm : decide ((3 : Int) < (n : Int) + 1) = true := decide_eq_true (by omega)
        have HKS := Lib.hid (show kindStep l n τ = wantS l cLt (failS l 16 τ) by unfold kindStep; rw [if_pos hm])
        have hI4 := hI3.step hOw hOU lP (par_seta hI3.post.par τ.a HFA.out)
        have HI4 := Lib.hid hI4
        clear hI3 hI4 hm
        go_wp2_with fail
        refine (fail_calls P g cap l τ 16 (by decide) _ HI4.out.post.par).mono ?_
        rintro e w3 ⟨rfl, hp3⟩
        have HI5 := Lib.hid (HI4.out.step hOw hOU lP hp3)
        clear hp3 HI4
        clear k0 k1 k2 x0 x1 r0 r1 r2 z0 z1 z2
        go_wp2_with fail
        refine (want_calls P g cap l _ cLt w3 HI5.out.post.par).mono ?_
        rintro e w4 ⟨rfl, hp4⟩
        rw [← HKS.out] at hp4
        have HI6 := Lib.hid (HI5.out.step hOw hOU lP hp4)
        clear hp4
        go_wp2_with fail
        have hr1 := rtyN_of HI6.out.out
        have hr2 := HRN.out
        refine ⟨⟨f', n + 1, kindStep l n τ, by omega, by omega, fun e => HMV.out.2 (by omega), HK2.out, HI6.out⟩, by rw [hr1, hr2]; omega⟩
      · have dm : decide ((3 : Int) < (n : Int) + 1) = false := decide_eq_false (by omega)
        have HKS := Lib.hid (show kindStep l n τ = wantS l cLt (goS τ) by unfold kindStep; rw [if_neg hm])
        have HI4 := Lib.hid hI3
        clear hI3 hm
        go_wp2_with fail
        refine (want_calls P g cap l _ cLt _ HI4.out.post.par).mono ?_
        rintro e w4 ⟨rfl, hp4⟩
        rw [← HKS.out] at hp4
        have HI6 := Lib.hid (HI4.out.step hOw hOU lP hp4)
        clear hp4
        clear k0 k1 k2 x0 x1 r0 r1 r2 z0 z1 z2
        go_wp2_with fail
        have hr1 := rtyN_of HI6.out.out
        have hr2 := HRN.out
        refine ⟨⟨f', n + 1, kindStep l n τ, by omega, by omega, fun e => HMV.out.2 (by omega), HK2.out, HI6.out⟩, by rw [hr1, hr2]; omega⟩
    | false =>
      rw [ht] at hw
      have hk2 : kindK l σ = (n, τ) := by
        rw [hk.out]
        cases f with
        | zero => rfl
        | succ f => simp only [kindLoop]; rw [if_neg (by rw [ht]; simp)]
      have htk : takeS l 1 cList τ = τ := by rw [takeS, if_neg (by rw [ht]; simp)]
      rw [htk] at hw
      have HK2 := Lib.hid hk2
      clear hk2 htk ht
      go_wp2_with fail
      refine hw.mono ?_
      rintro e w2 ⟨rfl, hp2⟩
      have HI2 := Lib.hid (hI.out.step hOw hOU lP hp2)
      clear hw hp2
      go_wp2_with fail
      refine (name_calls P g cap l τ false w2 HI2.out.post.par).mono ?_
      rintro e w3 ⟨rfl, hp3⟩
      have hI3 := HI2.out.step hOw hOU lP hp3
      obtain ⟨nm, hnm⟩ : ∃ nm, nm = nameV l false τ := ⟨_, rfl⟩
      obtain ⟨υ, hυ⟩ : ∃ υ, υ = nameS l false τ := ⟨_, rfl⟩
      rw [← hυ] at hI3
      rw [← hnm]
      have HV := Lib.hid (show kindV l σ = ⟨nm.text, n, t.pos⟩ by rw [kindV, HK2.out, HT.out, ← hnm])
      have HS := Lib.hid (show kindS l σ = wantN l cGt n υ by rw [kindS, HK2.out, ← hυ])
      have k0 : w3.cell? ⟨U, 0, none⟩ = some (.string ⟨#[]⟩) := by rw [blk_cell hI3.out]; rfl
      have k1 : w3.cell? ⟨U, 1, none⟩ = some (.int .i64 (n : Int)) := by rw [blk_cell hI3.out]; rfl
      have k2 : w3.cell? ⟨U, 2, none⟩ = some (.int .i64 (t.pos : Int)) := by rw [blk_cell hI3.out]; rfl
      have x0 : w3.frozen? ⟨U, 0, none⟩ = false := blk_frozen hI3.out _
      have x1 : w3.frozen? ⟨U, 1, none⟩ = false := blk_frozen hI3.out _
      have r0 : w3.cell? ⟨O, 0, none⟩ = some (.string ⟨#[]⟩) := by rw [blk_cell hI3.res]; rfl
      have r1 : w3.cell? ⟨O, 1, none⟩ = some (.int .i64 0) := by rw [blk_cell hI3.res]; rfl
      have r2 : w3.cell? ⟨O, 2, none⟩ = some (.int .i64 0) := by rw [blk_cell hI3.res]; rfl
      have z0 : w3.frozen? ⟨O, 0, none⟩ = false := blk_frozen hI3.res _
      have z1 : w3.frozen? ⟨O, 1, none⟩ = false := blk_frozen hI3.res _
      have z2 : w3.frozen? ⟨O, 2, none⟩ = false := blk_frozen hI3.res _
      have lU3 := blk_lt hI3.out
      have hI4 := hI3.name hOw hOU lP lg nm.text
      have HI4 := Lib.hid hI4
      clear hp3 hnm hυ hI3 hI4
      simp only [tokA]
      have hn4I : (n : Int) ≤ 4 := by omega
      go_wp2_with fail
      clear k0 k1 k2 x0 x1 r0 r1 r2 z0 z1 z2
      rename World => wo
      go_loopw [34] (fun v34 wr => ∃ (k : Nat) (τ' : PS), k ≤ n ∧ v34 = .int .i64 (k : Int) ∧ Hid (wantN l cGt n υ = wantN l cGt (n - k) τ') ∧ Hid (KdInv w P g cap l O U nm.text n t.pos τ' wr)) (fun v34 _ => n - (intOf v34).toNat)
      case atStart => exact ⟨0, υ, by omega, rfl, rfl, HI4.out⟩
      case round =>
        obtain ⟨k, τ', hkn, rfl, hwn, hI⟩ := hrel
        have hkI : (k : Int) ≤ 4 := by omega
        by_cases hk : k < n
        · have dk : decide ((k : Int) < (n : Int)) = true := decide_eq_true (by omega)
          have hwn2 : wantN l cGt n υ = wantN l cGt (n - (k + 1)) (wantS l cGt τ') := by
            rw [hwn.out, show n - k = (n - (k + 1)) + 1 by omega]; rfl
          have HWN2 := Lib.hid hwn2
          clear hwn2
          go_wp2_with fail
          refine (want_calls P g cap l τ' cGt _ hI.out.post.par).mono ?_
          rintro e w5 ⟨rfl, hp5⟩
          have HI5 := Lib.hid (hI.out.step hOw hOU lP hp5)
          clear hp5
          go_wp2_with fail
          go_roundw
          case rel => exact ⟨k + 1, _, by omega, by go_num, HWN2.out, HI5.out⟩
          case measure => simp [intOf]; omega
        · have dk : decide ((k : Int) < (n : Int)) = false := decide_eq_false (by omega)
          have hwn2 : wantN l cGt n υ = τ' := by rw [hwn.out, show n - k = 0 by omega]; rfl
          have HWN2 := Lib.hid hwn2
          have hI5 := hI.out
          have k0 : wr.cell? ⟨U, 0, none⟩ = some (.string nm.text) := by rw [blk_cell hI5.out]; rfl
          have k1 : wr.cell? ⟨U, 1, none⟩ = some (.int .i64 (n : Int)) := by rw [blk_cell hI5.out]; rfl
          have k2 : wr.cell? ⟨U, 2, none⟩ = some (.int .i64 (t.pos : Int)) := by rw [blk_cell hI5.out]; rfl
          have x0 : wr.frozen? ⟨U, 0, none⟩ = false := blk_frozen hI5.out _
          have x1 : wr.frozen? ⟨U, 1, none⟩ = false := blk_frozen hI5.out _
          have r0 : wr.cell? ⟨O, 0, none⟩ = some (.string ⟨#[]⟩) := by rw [blk_cell hI5.res]; rfl
          have r1 : wr.cell? ⟨O, 1, none⟩ = some (.int .i64 0) := by rw [blk_cell hI5.res]; rfl
          have r2 : wr.cell? ⟨O, 2, none⟩ = some (.int .i64 0) := by rw [blk_cell hI5.res]; rfl
          have z0 : wr.frozen? ⟨O, 0, none⟩ = false := blk_frozen hI5.res _
          have z1 : wr.frozen? ⟨O, 1, none⟩ = false := blk_frozen hI5.res _
          have z2 : wr.frozen? ⟨O, 2, none⟩ = false := blk_frozen hI5.res _
          clear hwn2 hI5
          go_wp2_with fail
          refine bodyPost_ret (v := rtyA ⟨nm.text, n, t.pos⟩) (by simp [results, Tryd.results163, go_sem, rtyA, *]) rfl ?_
          refine ⟨by rw [HV.out], ?_⟩
          rw [HS.out, HWN2.out]
          exact ((hI.out.post.far hOw lP lg 0 _).far hOw lP lg 1 _).far hOw lP lg 2 _

end Go.Proofs.YtgoaiokpnifhfaaDoor

/-
  Layer 4: things between braces.
-/
namespace Go.Proofs.YtgoaiokpnifhfaaDoor
open Go.RowKit
set_option linter.unusedVariables false
set_option linter.unusedSimpArgs false

def parLeft (w : World) (P : Nat) (l : List Tok) : Nat :=
  if intOf ((w.cell? ⟨P, 2, none⟩).getD undef) = 0 then l.length + 1 - (intOf ((w.cell? ⟨P, 1, none⟩).getD undef)).toNat else 0
theorem parLeft_of {w : World} {P g cap : Nat} {l : List Tok} {σ : PS} (h : ParAt w P g cap l σ) : parLeft w P l = left l σ := by
  have h1 : w.cell? ⟨P, 1, none⟩ = some (.int .i64 (σ.a : Int)) := by rw [blk_cell h.blk]; rfl
  have h2 : w.cell? ⟨P, 2, none⟩ = some (.int .i64 σ.c) := by rw [blk_cell h.blk]; rfl
  simp [parLeft, left, h1, h2, intOf]

/-- what the things between braces are read by -/
structure SerOf {α : Type} (fid : Nat) (caps : Array Value) (P g cap : Nat) (l : List Tok) (one : PS → PS) (val : PS → α) (I : PS → List α → World → Prop) : Prop where
  ent : Enters fid
  move : ∀ σ, Fine l σ → Moves l σ (one σ)
  par : ∀ σ acc w, I σ acc w → ParAt w P g cap l σ
  step : ∀ σ acc w τ w', I σ acc w → ParPost w P g cap l τ w' → I τ acc w'
  calls : ∀ σ acc w, σ.c = 0 → acc.length ≤ l.length → I σ acc w → Calls Tryd.prog fid caps w fun e w' => e = .returned (.tuple #[]) ∧ I (one σ) (acc ++ [val σ]) w'

set_option maxHeartbeats 2000000 in
set_option maxRecDepth 100000 in
theorem series_calls {α : Type} (fid : Nat) (caps : Array Value) (P g cap : Nat) (l : List Tok) (one : PS → PS) (val : PS → α) (I : PS → List α → World → Prop) (S : SerOf fid caps P g cap l one val I) (σ : PS) (w : World) (h : I σ [] w) :
    Calls Tryd.prog 161 #[.pointer (some ⟨P, 0, none⟩), .func (.func fid) #[] caps] w fun e w' => e = .returned (.tuple #[]) ∧ I (serR l one val σ).2 (serR l one val σ).1 w' := by
  have H := Lib.hid h
  have HS := Lib.hid S
  have hent := fun (W : World) => S.ent caps W
  have hz : serR l one val σ = serLoop l one val (l.length + 1) (wantS l cOpen σ) [] := rfl
  have HZ := Lib.hid hz
  have hw := want_calls P g cap l σ cOpen w (S.par _ _ _ h)
  clear h S hz
  go_enter Tryd.func161, Tryd.ntmps161
  go_wp2_with fail
  refine hw.mono ?_
  rintro e w1 ⟨rfl, hp1⟩
  have hI1 := HS.out.step _ _ _ _ _ H.out hp1
  have HI1 := Lib.hid hI1
  clear hI1 hp1 hw
  go_wp2_with fail
  go_loopw [6] (fun _ wr => ∃ (f : Nat) (τ : PS) (acc : List α), left l τ ≤ f ∧ acc.length + left l τ ≤ l.length + 1 ∧ Hid (serR l one val σ = serLoop l one val f τ acc) ∧ Hid (I τ acc wr)) (fun _ wr => parLeft wr P l)
  case atStart => exact ⟨l.length + 1, _, [], left_le, by have := @left_le l (wantS l cOpen σ); simp; omega, HZ.out, HI1.out⟩
  case round =>
    obtain ⟨f, τ, acc, hf, hal, hs, hI⟩ := hrel
    have hpar := HS.out.par _ _ _ hI.out
    have hbP := hpar.blk
    have p2 : wr.cell? ⟨P, 2, none⟩ = some (.int .i64 τ.c) := by rw [blk_cell hbP]; rfl
    have lPr := blk_lt hbP
    have HPL := Lib.hid (parLeft_of hpar)
    by_cases h0 : τ.c = 0
    · have b0 : (τ.c == 0) = true := by rw [beq_iff_eq]; exact h0
      have hsg := sign_calls P g cap l τ cClose wr hpar
      have hst := serLoop_step (one := one) (val := val) acc hf hpar.fine h0
      have hmv := HS.out.move τ hpar.fine
      have HML := Lib.hid (hmv.left h0 hpar.fine)
      obtain ⟨f', rfl, hst⟩ := hst
      have hff : left l (one τ) ≤ f' := by have := HML.out; omega
      have hall : (acc ++ [val τ]).length + left l (one τ) ≤ l.length + 1 := by have := HML.out; rw [List.length_append]; simp only [List.length_cons, List.length_nil]; omega
      have hacl : acc.length ≤ l.length := by have := HML.out; omega
      have HST := Lib.hid (hs.out.trans hst)
      have H0 := Lib.hid h0
      cases ht : isT l 4 cClose τ with
      | true =>
        rw [ht] at hsg
        have HR := Lib.hid (show serR l one val σ = (acc, goS τ) by rw [HST.out, if_pos ht])
        have htk : takeS l 4 cClose τ = goS τ := by rw [takeS, if_pos ht]
        rw [htk] at hsg
        clear h0 ht hst hmv hpar hbP hf htk hs
        go_wp2_with fail
        refine hsg.mono ?_
        rintro e w2 ⟨rfl, hp2⟩
        have HI2 := Lib.hid (HS.out.step _ _ _ _ _ hI.out hp2)
        clear hp2 hsg
        go_wp2_with fail
        refine bodyPost_end (v := .tuple #[]) (by simp [results, Tryd.results161, go_sem]) rfl ?_
        exact ⟨rfl, by rw [HR.out]; exact HI2.out⟩
      | false =>
        rw [ht] at hsg
        have HR := Lib.hid (show serR l one val σ = serLoop l one val f' (one τ) (acc ++ [val τ]) by rw [HST.out, if_neg (by rw [ht]; simp)])
        have htk : takeS l 4 cClose τ = τ := by rw [takeS, if_neg (by rw [ht]; simp)]
        rw [htk] at hsg
        clear h0 ht hst hmv hpar hbP hf htk hs
        go_wp2_with fail
        refine hsg.mono ?_
        rintro e w2 ⟨rfl, hp2⟩
        have HI2 := Lib.hid (HS.out.step _ _ _ _ _ hI.out hp2)
        clear hp2 hsg
        go_wp2_with fail
        refine (HS.out.calls _ _ _ H0.out hacl HI2.out).mono ?_
        rintro e w3 ⟨rfl, hI3⟩
        have HI3 := Lib.hid hI3
        clear hI3
        go_wp2_with fail
        go_roundw
        case rel => exact ⟨f', _, _, hff, hall, HR.out, HI3.out⟩
        case measure => rw [parLeft_of (HS.out.par _ _ _ HI3.out), HPL.out]; exact HML.out
    · have b0 : (τ.c == 0) = false := by rw [beq_eq_false_iff_ne]; exact h0
      have HR := Lib.hid (show serR l one val σ = (acc, τ) by rw [hs.out, serLoop_stuck _ _ h0])
      clear h0 hpar hbP hf hs
      go_wp2_with fail
      refine bodyPost_end (v := .tuple #[]) (by simp [results, Tryd.results161, go_sem]) rfl ?_
      exact ⟨rfl, by rw [HR.out]; exact hI.out⟩

end Go.Proofs.YtgoaiokpnifhfaaDoor
