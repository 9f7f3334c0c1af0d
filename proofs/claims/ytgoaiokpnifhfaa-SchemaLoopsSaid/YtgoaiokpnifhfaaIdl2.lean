/-
  Layer 4: the parser's steps: a fault, a sign, a word, a name.
-/
import Derived.Test.YtgoaiokpnifhfaaIdl1
namespace Go.Proofs.Ytgoaiokpnifhfaa
open Go.RowKit
set_option linter.unusedVariables false
set_option linter.unusedSimpArgs false


theorem field_tok1 (w : World) (a b c : Value) : Sem.run Try.prog (Instr.field 41 (.agg #[a, b, c]) 1) w = .ok b w := by kernel_rfl
theorem field_tok2 (w : World) (a b c : Value) : Sem.run Try.prog (Instr.field 41 (.agg #[a, b, c]) 2) w = .ok c w := by kernel_rfl

theorem par_go {w : World} {P g cap : Nat} {l : List Tok} {σ : PS} (h : ParAt w P g cap l σ) (hf : Fine l (goS σ)) : ParPost w P g cap l (goS σ) (w.setCell ⟨P, 1, none⟩ (.int .i64 ((σ.a : Int) + 1))) := by
  have hb : (w.setCell ⟨P, 1, none⟩ (.int .i64 ((σ.a : Int) + 1))).heap[P]? = some (parB g cap l (goS σ)) := by
    rw [blk_set h.blk]; rfl
  have hg : w.grownBy (w.setCell ⟨P, 1, none⟩ (.int .i64 ((σ.a : Int) + 1))) (some P) := grown_set (World.grownBy.refl _ _) _ _
  exact ⟨hg, h.grown hg hb hf⟩
theorem par_fault {w : World} {P g cap : Nat} {l : List Tok} {σ : PS} (h : ParAt w P g cap l σ) (e : Int) (p : Nat) (he : e ≠ 0) :
    ParPost w P g cap l ⟨σ.a, e, p⟩ ((w.setCell ⟨P, 2, none⟩ (.int .i64 e)).setCell ⟨P, 3, none⟩ (.int .i64 (p : Int))) := by
  have hb : ((w.setCell ⟨P, 2, none⟩ (.int .i64 e)).setCell ⟨P, 3, none⟩ (.int .i64 (p : Int))).heap[P]? = some (parB g cap l ⟨σ.a, e, p⟩) := by
    have h1 := blk_set h.blk 2 (.int .i64 e)
    rw [blk_set h1]; rfl
  have hg : w.grownBy ((w.setCell ⟨P, 2, none⟩ (.int .i64 e)).setCell ⟨P, 3, none⟩ (.int .i64 (p : Int))) (some P) := grown_set (grown_set (World.grownBy.refl _ _) _ _) _ _
  exact ⟨hg, h.grown hg hb ⟨h.fine.1, fun e0 => absurd e0 he⟩⟩

theorem ParPost.far {w w2 : World} {P g cap : Nat} {l : List Tok} {τ : PS} (h : ParPost w P g cap l τ w2) {O : Nat} (hO : w.heap.size ≤ O) (hP : P < w.heap.size) (hg : g < w.heap.size) (j : Nat) (v : Value) : ParPost w P g cap l τ (w2.setCell ⟨O, j, none⟩ v) :=
  ⟨grown_far h.grown O j v hO, { h.par with blk := blk_set_ne h.par.blk _ (by simp; omega) _, toks := h.par.toks.kept (Below.heap_setCell _ _ _ _ (by simp; omega)) }⟩

set_option maxHeartbeats 1000000 in
set_option maxRecDepth 100000 in
theorem fail_calls (P g cap : Nat) (l : List Tok) (σ : PS) (c : Int) (hc : c ≠ 0) (w : World) (h : ParAt w P g cap l σ) :
    Calls Try.prog 30 #[.pointer (some ⟨P, 0, none⟩), .int .i64 c] w fun e w' => e = .returned (.tuple #[]) ∧ ParPost w P g cap l (failS l c σ) w' := by
  have hb := h.blk
  have p0 : w.cell? ⟨P, 0, none⟩ = some (.slice (some ⟨g, 0, none⟩) l.length cap) := by rw [blk_cell hb]; rfl
  have p1 : w.cell? ⟨P, 1, none⟩ = some (.int .i64 (σ.a : Int)) := by rw [blk_cell hb]; rfl
  have p2 : w.cell? ⟨P, 2, none⟩ = some (.int .i64 σ.c) := by rw [blk_cell hb]; rfl
  have p3 : w.cell? ⟨P, 3, none⟩ = some (.int .i64 (σ.p : Int)) := by rw [blk_cell hb]; rfl
  have y1 : w.frozen? ⟨P, 1, none⟩ = false := blk_frozen hb _
  have y2 : w.frozen? ⟨P, 2, none⟩ = false := blk_frozen hb _
  have y3 : w.frozen? ⟨P, 3, none⟩ = false := blk_frozen hb _
  have lP := blk_lt h.blk
  have H := Lib.hid h
  have HC := Lib.hid hc
  clear hb hc
  by_cases h0 : σ.c = 0
  · have b0 : (σ.c == 0) = true := by rw [beq_iff_eq]; exact h0
    have HF := Lib.hid (show failS l c σ = ⟨σ.a, c, (hereT l σ.a).pos⟩ by unfold failS; rw [if_pos h0])
    have hh := here_calls P g cap l σ w h
    clear h h0
    go_enter Try.func30, Try.ntmps30
    go_wp2_with fail
    refine hh.mono ?_
    rintro e w1 ⟨rfl, hB1⟩
    have h1 := H.out.below hB1
    have hb := h1.blk
    have z2 : w1.frozen? ⟨P, 2, none⟩ = false := blk_frozen hb _
    have z3 : w1.frozen? ⟨P, 3, none⟩ = false := blk_frozen hb _
    have z4 : w1.cell? ⟨P, 2, none⟩ = some (.int .i64 σ.c) := by rw [blk_cell hb]; rfl
    have z5 : w1.cell? ⟨P, 3, none⟩ = some (.int .i64 (σ.p : Int)) := by rw [blk_cell hb]; rfl
    have H1 := Lib.hid h1
    have HB1 := Lib.hid hB1
    clear hb h1 hB1 p0 p1 p2 p3 y1 y2 y3 hh
    simp only [tokA]
    have kf := fun (w : World) (a b c : Value) => field_tok2 w a b c
    go_wp2_with fail
    refine bodyPost_end (v := .tuple #[]) (by simp [results, Try.results30, go_sem]) rfl ?_
    exact ⟨rfl, by rw [HF.out]; exact (ParPost.of_below H.out HB1.out).trans (par_fault H1.out c _ HC.out)⟩
  · have b0 : (σ.c == 0) = false := by rw [beq_eq_false_iff_ne]; exact h0
    have HF := Lib.hid (show failS l c σ = σ from failS_stuck h0)
    clear h h0
    go_enter Try.func30, Try.ntmps30
    go_wp2_with fail
    refine bodyPost_end (v := .tuple #[]) (by simp [results, Try.results30, go_sem]) rfl ?_
    exact ⟨rfl, by rw [HF.out]; exact ParPost.of_below H.out (Below.refl _ _)⟩

set_option maxHeartbeats 1000000 in
set_option maxRecDepth 100000 in
theorem sign_calls (P g cap : Nat) (l : List Tok) (σ : PS) (s : ByteArray) (w : World) (h : ParAt w P g cap l σ) :
    Calls Try.prog 47 #[.pointer (some ⟨P, 0, none⟩), .string s] w fun e w' => e = .returned (.bool (isT l 4 s σ)) ∧ ParPost w P g cap l (takeS l 4 s σ) w' := by
  have hh := here_calls P g cap l σ w h
  have lP := blk_lt h.blk
  have H := Lib.hid h
  clear h
  go_enter Try.func47, Try.ntmps47
  go_wp2_with fail
  refine hh.mono ?_
  rintro e w1 ⟨rfl, hB1⟩
  have h1 := H.out.below hB1
  have hb := h1.blk
  have p0 : w1.cell? ⟨P, 0, none⟩ = some (.slice (some ⟨g, 0, none⟩) l.length cap) := by rw [blk_cell hb]; rfl
  have p1 : w1.cell? ⟨P, 1, none⟩ = some (.int .i64 (σ.a : Int)) := by rw [blk_cell hb]; rfl
  have p2 : w1.cell? ⟨P, 2, none⟩ = some (.int .i64 σ.c) := by rw [blk_cell hb]; rfl
  have p3 : w1.cell? ⟨P, 3, none⟩ = some (.int .i64 (σ.p : Int)) := by rw [blk_cell hb]; rfl
  have y1 : w1.frozen? ⟨P, 1, none⟩ = false := blk_frozen hb _
  have y2 : w1.frozen? ⟨P, 2, none⟩ = false := blk_frozen hb _
  have y3 : w1.frozen? ⟨P, 3, none⟩ = false := blk_frozen hb _
  have lP1 := blk_lt hb
  have H1 := Lib.hid h1
  have HB1 := Lib.hid hB1
  clear hb h1 hB1 hh
  simp only [tokA]
  have hF := @fine_go l H1.out.ended σ H1.out.fine
  have ha1 : (σ.a : Int) ≤ 100000 := by have := H1.out.fine.1; have := H1.out.small; omega
  have HF := Lib.hid hF
  clear hF
  go_wp2_with fail
  · rename_i h0 h1 h2
    go_ret
    have ht : isT l 4 s σ = false := by
      have h3 : eqS (hereT l σ.a).text s = false := by rw [eqS, ← Go.ByteArray.toList_eq, ← Go.ByteArray.toList_eq]; simpa using h2
      simp [isT, h3]
    exact ⟨by rw [ht]; rfl, by unfold takeS; rw [if_neg (by rw [ht]; simp)]; exact (ParPost.of_below H.out HB1.out).below (below1 _ _)⟩
  · rename_i h0 h1 h2
    go_ret
    have ht : isT l 4 s σ = true := by
      have h3 : eqS (hereT l σ.a).text s = true := by rw [eqS, ← Go.ByteArray.toList_eq, ← Go.ByteArray.toList_eq]; simpa using h2
      simp [isT, h3, h0, h1]
    exact ⟨by rw [ht]; rfl, by unfold takeS; rw [if_pos ht]; exact ((ParPost.of_below H.out HB1.out).trans (par_go H1.out (HF.out (by rw [h1]; decide)))).below (below1 _ _)⟩
  · rename_i h0 h1
    go_ret
    have ht : isT l 4 s σ = false := by simp [isT, h1]
    exact ⟨by rw [ht]; rfl, by unfold takeS; rw [if_neg (by rw [ht]; simp)]; exact (ParPost.of_below H.out HB1.out).below (below1 _ _)⟩
  · rename_i h0
    go_ret
    have ht : isT l 4 s σ = false := isT_fault h0
    exact ⟨by rw [ht]; rfl, by unfold takeS; rw [if_neg (by rw [ht]; simp)]; exact (ParPost.of_below H.out HB1.out).below (below1 _ _)⟩

set_option maxHeartbeats 1000000 in
set_option maxRecDepth 100000 in
theorem word_calls (P g cap : Nat) (l : List Tok) (σ : PS) (s : ByteArray) (w : World) (h : ParAt w P g cap l σ) :
    Calls Try.prog 25 #[.pointer (some ⟨P, 0, none⟩), .string s] w fun e w' => e = .returned (.bool (isT l 1 s σ)) ∧ ParPost w P g cap l (takeS l 1 s σ) w' := by
  have hh := here_calls P g cap l σ w h
  have lP := blk_lt h.blk
  have H := Lib.hid h
  clear h
  go_enter Try.func25, Try.ntmps25
  go_wp2_with fail
  refine hh.mono ?_
  rintro e w1 ⟨rfl, hB1⟩
  have h1 := H.out.below hB1
  have hb := h1.blk
  have p0 : w1.cell? ⟨P, 0, none⟩ = some (.slice (some ⟨g, 0, none⟩) l.length cap) := by rw [blk_cell hb]; rfl
  have p1 : w1.cell? ⟨P, 1, none⟩ = some (.int .i64 (σ.a : Int)) := by rw [blk_cell hb]; rfl
  have p2 : w1.cell? ⟨P, 2, none⟩ = some (.int .i64 σ.c) := by rw [blk_cell hb]; rfl
  have p3 : w1.cell? ⟨P, 3, none⟩ = some (.int .i64 (σ.p : Int)) := by rw [blk_cell hb]; rfl
  have y1 : w1.frozen? ⟨P, 1, none⟩ = false := blk_frozen hb _
  have y2 : w1.frozen? ⟨P, 2, none⟩ = false := blk_frozen hb _
  have y3 : w1.frozen? ⟨P, 3, none⟩ = false := blk_frozen hb _
  have lP1 := blk_lt hb
  have H1 := Lib.hid h1
  have HB1 := Lib.hid hB1
  clear hb h1 hB1 hh
  simp only [tokA]
  have hF := @fine_go l H1.out.ended σ H1.out.fine
  have ha1 : (σ.a : Int) ≤ 100000 := by have := H1.out.fine.1; have := H1.out.small; omega
  have HF := Lib.hid hF
  clear hF
  go_wp2_with fail
  · rename_i h0 h1 h2
    go_ret
    have ht : isT l 1 s σ = false := by
      have h3 : eqS (hereT l σ.a).text s = false := by rw [eqS, ← Go.ByteArray.toList_eq, ← Go.ByteArray.toList_eq]; simpa using h2
      simp [isT, h3]
    exact ⟨by rw [ht]; rfl, by unfold takeS; rw [if_neg (by rw [ht]; simp)]; exact (ParPost.of_below H.out HB1.out).below (below1 _ _)⟩
  · rename_i h0 h1 h2
    go_ret
    have ht : isT l 1 s σ = true := by
      have h3 : eqS (hereT l σ.a).text s = true := by rw [eqS, ← Go.ByteArray.toList_eq, ← Go.ByteArray.toList_eq]; simpa using h2
      simp [isT, h3, h0, h1]
    exact ⟨by rw [ht]; rfl, by unfold takeS; rw [if_pos ht]; exact ((ParPost.of_below H.out HB1.out).trans (par_go H1.out (HF.out (by rw [h1]; decide)))).below (below1 _ _)⟩
  · rename_i h0 h1
    go_ret
    have ht : isT l 1 s σ = false := by simp [isT, h1]
    exact ⟨by rw [ht]; rfl, by unfold takeS; rw [if_neg (by rw [ht]; simp)]; exact (ParPost.of_below H.out HB1.out).below (below1 _ _)⟩
  · rename_i h0
    go_ret
    have ht : isT l 1 s σ = false := isT_fault h0
    exact ⟨by rw [ht]; rfl, by unfold takeS; rw [if_neg (by rw [ht]; simp)]; exact (ParPost.of_below H.out HB1.out).below (below1 _ _)⟩

set_option maxHeartbeats 1000000 in
set_option maxRecDepth 100000 in
theorem want_calls (P g cap : Nat) (l : List Tok) (σ : PS) (s : ByteArray) (w : World) (h : ParAt w P g cap l σ) :
    Calls Try.prog 29 #[.pointer (some ⟨P, 0, none⟩), .string s] w fun e w' => e = .returned (.tuple #[]) ∧ ParPost w P g cap l (wantS l s σ) w' := by
  have hs := sign_calls P g cap l σ s w h
  cases ht : isT l 4 s σ with
  | true =>
    rw [ht] at hs
    have HW := Lib.hid (show wantS l s σ = takeS l 4 s σ by rw [wantS, takeS, if_pos ht, if_pos ht])
    clear ht h
    go_enter Try.func29, Try.ntmps29
    go_wp2_with fail
    refine hs.mono ?_
    rintro e w1 ⟨rfl, hp1⟩
    have HP1 := Lib.hid hp1
    clear hs hp1
    go_wp2_with fail
    refine bodyPost_end (v := .tuple #[]) (by simp [results, Try.results29, go_sem]) rfl ?_
    exact ⟨rfl, by rw [HW.out]; exact HP1.out⟩
  | false =>
    rw [ht] at hs
    have HW := Lib.hid (show wantS l s σ = failS l 11 σ by rw [wantS, if_neg (by rw [ht]; simp)])
    have HT := Lib.hid (show takeS l 4 s σ = σ by rw [takeS, if_neg (by rw [ht]; simp)])
    clear ht h
    go_enter Try.func29, Try.ntmps29
    go_wp2_with fail
    refine hs.mono ?_
    rintro e w1 ⟨rfl, hp1⟩
    rw [HT.out] at hp1
    have HP1 := Lib.hid hp1
    clear hs hp1
    go_wp2_with fail
    refine (fail_calls P g cap l σ 11 (by decide) w1 HP1.out.par).mono ?_
    rintro e w2 ⟨rfl, hp2⟩
    have HP2 := Lib.hid hp2
    clear hp2
    go_wp2_with fail
    refine bodyPost_end (v := .tuple #[]) (by simp [results, Try.results29, go_sem]) rfl ?_
    exact ⟨rfl, by rw [HW.out]; exact HP1.out.trans HP2.out⟩

set_option maxHeartbeats 2000000 in
set_option maxRecDepth 100000 in
theorem name_calls (P g cap : Nat) (l : List Tok) (σ : PS) (q : Bool) (w : World) (h : ParAt w P g cap l σ) :
    Calls Try.prog 28 #[.pointer (some ⟨P, 0, none⟩), .bool q] w fun e w' => e = .returned (tokA (nameV l q σ)) ∧ ParPost w P g cap l (nameS l q σ) w' := by
  have hh := fun (W : World) (h : ParAt W P g cap l σ) => here_calls P g cap l σ W h
  have hfl := fun (W : World) (h : ParAt W P g cap l σ) (e : Int) (he : e ≠ 0) => fail_calls P g cap l σ e he W h
  have lP := blk_lt h.blk
  have lg := h.toks.lt h.ended.1
  have hF := @fine_go l h.ended σ h.fine
  have HF := Lib.hid hF
  have ha1 : (σ.a : Int) ≤ 100000 := by have := h.fine.1; have := h.small; omega
  obtain ⟨t, ht⟩ : ∃ t, hereT l σ.a = t := ⟨_, rfl⟩
  have HTE := Lib.hid ht
  rw [ht] at hh
  have HH := Lib.hid hh
  have HFL := Lib.hid hfl
  have H := Lib.hid h
  clear h hh hfl hF ht
  go_enter Try.func28, Try.ntmps28
  go_wp2_with fail
  refine (HH.out _ (H.out.below (below1 _ _))).mono ?_
  rintro e w1 ⟨rfl, hB1⟩
  have h1 := (H.out.below (below1 _ _)).below hB1
  have hO1 := blk_below (blk_new w _) hB1 (by simp)
  have hz1 := hB1.size
  simp only [World.size_alloc] at hz1
  have HB1 := Lib.hid ((below1 w _).trans (hB1.mono (by simp)))
  obtain ⟨O, hO⟩ : ∃ O, O = w.heap.size := ⟨_, rfl⟩
  rw [← hO] at hO1 hz1 ⊢
  have hOw : w.heap.size ≤ O := by omega
  have hb := h1.blk
  have p0 : w1.cell? ⟨P, 0, none⟩ = some (.slice (some ⟨g, 0, none⟩) l.length cap) := by rw [blk_cell hb]; rfl
  have p1 : w1.cell? ⟨P, 1, none⟩ = some (.int .i64 (σ.a : Int)) := by rw [blk_cell hb]; rfl
  have p2 : w1.cell? ⟨P, 2, none⟩ = some (.int .i64 σ.c) := by rw [blk_cell hb]; rfl
  have p3 : w1.cell? ⟨P, 3, none⟩ = some (.int .i64 (σ.p : Int)) := by rw [blk_cell hb]; rfl
  have y1 : w1.frozen? ⟨P, 1, none⟩ = false := blk_frozen hb _
  have y2 : w1.frozen? ⟨P, 2, none⟩ = false := blk_frozen hb _
  have y3 : w1.frozen? ⟨P, 3, none⟩ = false := blk_frozen hb _
  have lP1 : P < w1.heap.size := blk_lt hb
  have lO1 : O < w1.heap.size := blk_lt hO1
  have hne : O ≠ P := by omega
  have o0 : w1.cell? ⟨O, 0, none⟩ = some (.int .i64 0) := by rw [blk_cell hO1]; rfl
  have o1 : w1.cell? ⟨O, 1, none⟩ = some (.string ⟨#[]⟩) := by rw [blk_cell hO1]; rfl
  have o2 : w1.cell? ⟨O, 2, none⟩ = some (.int .i64 0) := by rw [blk_cell hO1]; rfl
  have q0 : w1.frozen? ⟨O, 0, none⟩ = false := blk_frozen hO1 _
  have q1 : w1.frozen? ⟨O, 1, none⟩ = false := blk_frozen hO1 _
  have q2 : w1.frozen? ⟨O, 2, none⟩ = false := blk_frozen hO1 _
  have H1 := Lib.hid h1
  have HO1 := Lib.hid hO1
  clear hb h1 hB1 hO hO1
  simp only [tokA]
  have hzt : t.text.toList.isEmpty = decide (t.text.size = 0) := by
    have hl : t.text.data.toList.length = t.text.size := Array.length_toList
    rw [Go.ByteArray.toList_eq, ← hl]
    cases t.text.data.toList <;> simp
  by_cases h0 : σ.c = 0
  · have b0 : (σ.c != 0) = false := by rw [bne_eq_false_iff_eq]; exact h0
    by_cases hk : t.kind = 1 ∨ (q = true ∧ t.kind = 3)
    · have hnb : nameBad l q σ = false := by
        rw [nameBad, HTE.out]
        rcases hk with e | ⟨e, e'⟩
        · simp [e]
        · simp [e, e']
      have hk0 : t.kind ≠ 0 := by rcases hk with e | ⟨_, e⟩ <;> rw [e] <;> decide
      have HNB := Lib.hid hnb
      have HK0 := Lib.hid hk0
      by_cases h40 : 40 < t.text.size
      · have d40 : decide ((40 : Int) < (t.text.size : Int)) = true := decide_eq_true (by omega)
        have hnl : nameLong l σ = true := by rw [nameLong, HTE.out, decide_eq_true h40]; rfl
        clear hzt hnb hk0
        rcases hk with e | ⟨rfl, e'⟩
        · have b2 : (t.kind != 1) = false := by rw [e]; rfl
          clear e
          have HV := Lib.hid (show nameV l q σ = tok0 from (by rw [nameV, if_pos h0, if_neg (by rw [HNB.out]; simp), if_pos hnl]))
          have HS := Lib.hid (show nameS l q σ = failS l 12 σ from (by rw [nameS, if_pos h0, if_neg (by rw [HNB.out]; simp), if_pos hnl]))
          clear hnl h0 h40
          go_wp2_with fail
          refine (HFL.out _ (H1.out.below (below1 _ _)) 12 (by decide)).mono ?_
          rintro e w2 ⟨rfl, hp2⟩
          have hO2 := blk_grown (blk_alloc HO1.out _) hp2.grown hne
          have o0' : w2.cell? ⟨O, 0, none⟩ = some (.int .i64 0) := by rw [blk_cell hO2]; rfl
          have o1' : w2.cell? ⟨O, 1, none⟩ = some (.string ⟨#[]⟩) := by rw [blk_cell hO2]; rfl
          have o2' : w2.cell? ⟨O, 2, none⟩ = some (.int .i64 0) := by rw [blk_cell hO2]; rfl
          have q0' : w2.frozen? ⟨O, 0, none⟩ = false := blk_frozen hO2 _
          have q1' : w2.frozen? ⟨O, 1, none⟩ = false := blk_frozen hO2 _
          have q2' : w2.frozen? ⟨O, 2, none⟩ = false := blk_frozen hO2 _
          have HP2 := Lib.hid ((((ParPost.of_below H.out HB1.out).below (below1 _ _)).trans hp2))
          clear hO2 hp2
          clear p0 p1 p2 p3 y1 y2 y3 o0 o1 o2 q0 q1 q2
          go_wp2_with fail
          refine bodyPost_ret (v := tokA tok0) (by simp [results, Try.results28, go_sem, tokA, tok0, *]) rfl ?_
          exact ⟨by rw [HV.out], by rw [HS.out]; exact ((HP2.out.far hOw lP lg 0 _).far hOw lP lg 1 _).far hOw lP lg 2 _⟩
        · have b2 : (t.kind != 1) = true := by rw [e']; rfl
          have b3 : (t.kind != 3) = false := by rw [e']; rfl
          clear e'
          have HV := Lib.hid (show nameV l true σ = tok0 from (by rw [nameV, if_pos h0, if_neg (by rw [HNB.out]; simp), if_pos hnl]))
          have HS := Lib.hid (show nameS l true σ = failS l 12 σ from (by rw [nameS, if_pos h0, if_neg (by rw [HNB.out]; simp), if_pos hnl]))
          clear hnl h0 h40
          go_wp2_with fail
          refine (HFL.out _ (H1.out.below (below1 _ _)) 12 (by decide)).mono ?_
          rintro e w2 ⟨rfl, hp2⟩
          have hO2 := blk_grown (blk_alloc HO1.out _) hp2.grown hne
          have o0' : w2.cell? ⟨O, 0, none⟩ = some (.int .i64 0) := by rw [blk_cell hO2]; rfl
          have o1' : w2.cell? ⟨O, 1, none⟩ = some (.string ⟨#[]⟩) := by rw [blk_cell hO2]; rfl
          have o2' : w2.cell? ⟨O, 2, none⟩ = some (.int .i64 0) := by rw [blk_cell hO2]; rfl
          have q0' : w2.frozen? ⟨O, 0, none⟩ = false := blk_frozen hO2 _
          have q1' : w2.frozen? ⟨O, 1, none⟩ = false := blk_frozen hO2 _
          have q2' : w2.frozen? ⟨O, 2, none⟩ = false := blk_frozen hO2 _
          have HP2 := Lib.hid ((((ParPost.of_below H.out HB1.out).below (below1 _ _)).trans hp2))
          clear hO2 hp2
          clear p0 p1 p2 p3 y1 y2 y3 o0 o1 o2 q0 q1 q2
          go_wp2_with fail
          refine bodyPost_ret (v := tokA tok0) (by simp [results, Try.results28, go_sem, tokA, tok0, *]) rfl ?_
          exact ⟨by rw [HV.out], by rw [HS.out]; exact ((HP2.out.far hOw lP lg 0 _).far hOw lP lg 1 _).far hOw lP lg 2 _⟩
      · have d40 : decide ((40 : Int) < (t.text.size : Int)) = false := decide_eq_false (by omega)
        by_cases hz : t.text.size = 0
        · rw [decide_eq_true hz] at hzt
          have hnl : nameLong l σ = true := by rw [nameLong, HTE.out, decide_eq_true hz]; simp
          clear hnb hk0
          rcases hk with e | ⟨rfl, e'⟩
          · have b2 : (t.kind != 1) = false := by rw [e]; rfl
            clear e
            have HV := Lib.hid (show nameV l q σ = tok0 from (by rw [nameV, if_pos h0, if_neg (by rw [HNB.out]; simp), if_pos hnl]))
            have HS := Lib.hid (show nameS l q σ = failS l 12 σ from (by rw [nameS, if_pos h0, if_neg (by rw [HNB.out]; simp), if_pos hnl]))
            clear hnl h0 h40 hz
            go_wp2_with fail
            refine (HFL.out _ (H1.out.below (below1 _ _)) 12 (by decide)).mono ?_
            rintro e w2 ⟨rfl, hp2⟩
            have hO2 := blk_grown (blk_alloc HO1.out _) hp2.grown hne
            have o0' : w2.cell? ⟨O, 0, none⟩ = some (.int .i64 0) := by rw [blk_cell hO2]; rfl
            have o1' : w2.cell? ⟨O, 1, none⟩ = some (.string ⟨#[]⟩) := by rw [blk_cell hO2]; rfl
            have o2' : w2.cell? ⟨O, 2, none⟩ = some (.int .i64 0) := by rw [blk_cell hO2]; rfl
            have q0' : w2.frozen? ⟨O, 0, none⟩ = false := blk_frozen hO2 _
            have q1' : w2.frozen? ⟨O, 1, none⟩ = false := blk_frozen hO2 _
            have q2' : w2.frozen? ⟨O, 2, none⟩ = false := blk_frozen hO2 _
            have HP2 := Lib.hid ((((ParPost.of_below H.out HB1.out).below (below1 _ _)).trans hp2))
            clear hO2 hp2
            clear p0 p1 p2 p3 y1 y2 y3 o0 o1 o2 q0 q1 q2
            go_wp2_with fail
            refine bodyPost_ret (v := tokA tok0) (by simp [results, Try.results28, go_sem, tokA, tok0, *]) rfl ?_
            exact ⟨by rw [HV.out], by rw [HS.out]; exact ((HP2.out.far hOw lP lg 0 _).far hOw lP lg 1 _).far hOw lP lg 2 _⟩
          · have b2 : (t.kind != 1) = true := by rw [e']; rfl
            have b3 : (t.kind != 3) = false := by rw [e']; rfl
            clear e'
            have HV := Lib.hid (show nameV l true σ = tok0 from (by rw [nameV, if_pos h0, if_neg (by rw [HNB.out]; simp), if_pos hnl]))
            have HS := Lib.hid (show nameS l true σ = failS l 12 σ from (by rw [nameS, if_pos h0, if_neg (by rw [HNB.out]; simp), if_pos hnl]))
            clear hnl h0 h40 hz
            go_wp2_with fail
            refine (HFL.out _ (H1.out.below (below1 _ _)) 12 (by decide)).mono ?_
            rintro e w2 ⟨rfl, hp2⟩
            have hO2 := blk_grown (blk_alloc HO1.out _) hp2.grown hne
            have o0' : w2.cell? ⟨O, 0, none⟩ = some (.int .i64 0) := by rw [blk_cell hO2]; rfl
            have o1' : w2.cell? ⟨O, 1, none⟩ = some (.string ⟨#[]⟩) := by rw [blk_cell hO2]; rfl
            have o2' : w2.cell? ⟨O, 2, none⟩ = some (.int .i64 0) := by rw [blk_cell hO2]; rfl
            have q0' : w2.frozen? ⟨O, 0, none⟩ = false := blk_frozen hO2 _
            have q1' : w2.frozen? ⟨O, 1, none⟩ = false := blk_frozen hO2 _
            have q2' : w2.frozen? ⟨O, 2, none⟩ = false := blk_frozen hO2 _
            have HP2 := Lib.hid ((((ParPost.of_below H.out HB1.out).below (below1 _ _)).trans hp2))
            clear hO2 hp2
            clear p0 p1 p2 p3 y1 y2 y3 o0 o1 o2 q0 q1 q2
            go_wp2_with fail
            refine bodyPost_ret (v := tokA tok0) (by simp [results, Try.results28, go_sem, tokA, tok0, *]) rfl ?_
            exact ⟨by rw [HV.out], by rw [HS.out]; exact ((HP2.out.far hOw lP lg 0 _).far hOw lP lg 1 _).far hOw lP lg 2 _⟩
        · rw [decide_eq_false hz] at hzt
          have hnl : nameLong l σ = false := by rw [nameLong, HTE.out, decide_eq_false hz, decide_eq_false h40]; rfl
          clear hnb hk0
          rcases hk with e | ⟨rfl, e'⟩
          · have b2 : (t.kind != 1) = false := by rw [e]; rfl
            clear e
            have HV := Lib.hid (show nameV l q σ = t from (by rw [nameV, if_pos h0, if_neg (by rw [HNB.out]; simp), if_neg (by rw [hnl]; simp), HTE.out]))
            have HS := Lib.hid (show nameS l q σ = goS σ from (by rw [nameS, if_pos h0, if_neg (by rw [HNB.out]; simp), if_neg (by rw [hnl]; simp)]))
            have hfg := HF.out (by rw [HTE.out]; exact HK0.out)
            have HFG := Lib.hid hfg
            clear hfg hnl h0 h40 hz
            go_wp2_with fail
            refine bodyPost_ret (v := tokA t) (by simp [results, Try.results28, go_sem, tokA, *]) rfl ?_
            refine ⟨by rw [HV.out], ?_⟩
            rw [HS.out]
            have HP := (ParPost.of_below H.out HB1.out).trans (par_go H1.out HFG.out)
            exact (((HP.far hOw lP lg 0 _).far hOw lP lg 1 _).far hOw lP lg 2 _).below (below1 _ _)
          · have b2 : (t.kind != 1) = true := by rw [e']; rfl
            have b3 : (t.kind != 3) = false := by rw [e']; rfl
            clear e'
            have HV := Lib.hid (show nameV l true σ = t from (by rw [nameV, if_pos h0, if_neg (by rw [HNB.out]; simp), if_neg (by rw [hnl]; simp), HTE.out]))
            have HS := Lib.hid (show nameS l true σ = goS σ from (by rw [nameS, if_pos h0, if_neg (by rw [HNB.out]; simp), if_neg (by rw [hnl]; simp)]))
            have hfg := HF.out (by rw [HTE.out]; exact HK0.out)
            have HFG := Lib.hid hfg
            clear hfg hnl h0 h40 hz
            go_wp2_with fail
            refine bodyPost_ret (v := tokA t) (by simp [results, Try.results28, go_sem, tokA, *]) rfl ?_
            refine ⟨by rw [HV.out], ?_⟩
            rw [HS.out]
            have HP := (ParPost.of_below H.out HB1.out).trans (par_go H1.out HFG.out)
            exact (((HP.far hOw lP lg 0 _).far hOw lP lg 1 _).far hOw lP lg 2 _).below (below1 _ _)
    · have hk1 : ¬ t.kind = 1 := fun e => hk (.inl e)
      have b2 : (t.kind != 1) = true := by rw [bne_iff_ne]; exact hk1
      clear hzt
      cases q with
      | true =>
        have hk3 : ¬ t.kind = 3 := fun e => hk (.inr ⟨rfl, e⟩)
        have b3 : (t.kind != 3) = true := by rw [bne_iff_ne]; exact hk3
        have hnb : nameBad l true σ = true := by rw [nameBad, HTE.out, decide_eq_false hk1, decide_eq_false hk3]; rfl
        clear hk hk1 hk3
        have HV := Lib.hid (show nameV l true σ = tok0 from (by rw [nameV, if_pos h0, if_pos hnb]))
        have HS := Lib.hid (show nameS l true σ = failS l 11 σ from (by rw [nameS, if_pos h0, if_pos hnb]))
        clear hnb h0
        go_wp2_with fail
        refine (HFL.out _ (H1.out.below (below1 _ _)) 11 (by decide)).mono ?_
        rintro e w2 ⟨rfl, hp2⟩
        have hO2 := blk_grown (blk_alloc HO1.out _) hp2.grown hne
        have o0' : w2.cell? ⟨O, 0, none⟩ = some (.int .i64 0) := by rw [blk_cell hO2]; rfl
        have o1' : w2.cell? ⟨O, 1, none⟩ = some (.string ⟨#[]⟩) := by rw [blk_cell hO2]; rfl
        have o2' : w2.cell? ⟨O, 2, none⟩ = some (.int .i64 0) := by rw [blk_cell hO2]; rfl
        have q0' : w2.frozen? ⟨O, 0, none⟩ = false := blk_frozen hO2 _
        have q1' : w2.frozen? ⟨O, 1, none⟩ = false := blk_frozen hO2 _
        have q2' : w2.frozen? ⟨O, 2, none⟩ = false := blk_frozen hO2 _
        have HP2 := Lib.hid ((((ParPost.of_below H.out HB1.out).below (below1 _ _)).trans hp2))
        clear hO2 hp2
        clear p0 p1 p2 p3 y1 y2 y3 o0 o1 o2 q0 q1 q2
        go_wp2_with fail
        refine bodyPost_ret (v := tokA tok0) (by simp [results, Try.results28, go_sem, tokA, tok0, *]) rfl ?_
        exact ⟨by rw [HV.out], by rw [HS.out]; exact ((HP2.out.far hOw lP lg 0 _).far hOw lP lg 1 _).far hOw lP lg 2 _⟩
      | false =>
        have hnb : nameBad l false σ = true := by rw [nameBad, HTE.out, decide_eq_false hk1]; rfl
        clear hk hk1
        have HV := Lib.hid (show nameV l false σ = tok0 from (by rw [nameV, if_pos h0, if_pos hnb]))
        have HS := Lib.hid (show nameS l false σ = failS l 11 σ from (by rw [nameS, if_pos h0, if_pos hnb]))
        clear hnb h0
        go_wp2_with fail
        refine (HFL.out _ (H1.out.below (below1 _ _)) 11 (by decide)).mono ?_
        rintro e w2 ⟨rfl, hp2⟩
        have hO2 := blk_grown (blk_alloc HO1.out _) hp2.grown hne
        have o0' : w2.cell? ⟨O, 0, none⟩ = some (.int .i64 0) := by rw [blk_cell hO2]; rfl
        have o1' : w2.cell? ⟨O, 1, none⟩ = some (.string ⟨#[]⟩) := by rw [blk_cell hO2]; rfl
        have o2' : w2.cell? ⟨O, 2, none⟩ = some (.int .i64 0) := by rw [blk_cell hO2]; rfl
        have q0' : w2.frozen? ⟨O, 0, none⟩ = false := blk_frozen hO2 _
        have q1' : w2.frozen? ⟨O, 1, none⟩ = false := blk_frozen hO2 _
        have q2' : w2.frozen? ⟨O, 2, none⟩ = false := blk_frozen hO2 _
        have HP2 := Lib.hid ((((ParPost.of_below H.out HB1.out).below (below1 _ _)).trans hp2))
        clear hO2 hp2
        clear p0 p1 p2 p3 y1 y2 y3 o0 o1 o2 q0 q1 q2
        go_wp2_with fail
        refine bodyPost_ret (v := tokA tok0) (by simp [results, Try.results28, go_sem, tokA, tok0, *]) rfl ?_
        exact ⟨by rw [HV.out], by rw [HS.out]; exact ((HP2.out.far hOw lP lg 0 _).far hOw lP lg 1 _).far hOw lP lg 2 _⟩
  · have b0 : (σ.c != 0) = true := by rw [bne_iff_ne]; exact h0
    have HV := Lib.hid (show nameV l q σ = tok0 by rw [nameV, if_neg h0])
    have HS := Lib.hid (show nameS l q σ = σ by rw [nameS, if_neg h0])
    clear hzt h0
    go_wp2_with fail
    refine bodyPost_ret (v := tokA tok0) (by simp [results, Try.results28, go_sem, tokA, tok0, *]) rfl ?_
    exact ⟨by rw [HV.out], by rw [HS.out]; exact ((((ParPost.of_below H.out HB1.out).far hOw lP lg 0 _).far hOw lP lg 1 _).far hOw lP lg 2 _).below (below1 _ _)⟩

end Go.Proofs.Ytgoaiokpnifhfaa
