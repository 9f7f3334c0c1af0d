/-
  Layer 4: the parser's small steps.
-/
import Derived.Test.YtejpjclbeogajaaDoorIdlP
import Derived.Test.YtejpjclbeogajaaDoorTok1
import Derived.Test.YtejpjclbeogajaaDoorTail
namespace Go.Proofs.YtejpjclbeogajaaDoor
open Go.RowKit
set_option linter.unusedVariables false
set_option linter.unusedSimpArgs false

theorem cell_kept {w w' : World} {b j : Nat} {v : Value} (h : w.cell? ⟨b, j, none⟩ = some v) (hb : Below w.heap.size w w') : w'.cell? ⟨b, j, none⟩ = some v := by
  have hg : b < w.heap.size := by
    by_cases hl : b < w.heap.size
    · exact hl
    · rw [World.cell?] at h
      simp [Array.getElem?_eq_none (Nat.not_lt.1 hl)] at h
  exact (hb.cell (p := ⟨b, j, none⟩) hg).trans h
theorem below_drewN {B : Nat} {w w' : World} (h : Below B w w') (n : Nat) : Below B w (w'.drewN n) := ⟨h.os, h.tape, h.output, h.size, h.block⟩
/-- tokens in memory -/
def ToksIn (w : World) (g : Nat) (l : List Tok) : Prop := ∀ k, k < l.length → w.cell? ⟨g, k * 3, none⟩ = some (.int .i64 (l[k]?.getD tok0).kind) ∧ w.cell? ⟨g, k * 3 + 1, none⟩ = some (.string (l[k]?.getD tok0).text) ∧ w.cell? ⟨g, k * 3 + 2, none⟩ = some (.int .i64 ((l[k]?.getD tok0).pos : Int))
theorem ToksIn.kept {w w' : World} {g : Nat} {l : List Tok} (h : ToksIn w g l) (e : w'.heap[g]? = w.heap[g]?) : ToksIn w' g l := by
  intro k hk
  have hc : ∀ j, w'.cell? ⟨g, j, none⟩ = w.cell? ⟨g, j, none⟩ := fun j => World.cell?_of_block (w := w) (a := ⟨g, j, none⟩) e
  rw [hc, hc, hc]; exact h k hk
theorem ToksIn.lt {w : World} {g : Nat} {l : List Tok} (h : ToksIn w g l) (hl : 0 < l.length) : g < w.heap.size := by
  have h1 := (h 0 hl).1
  by_cases hg : g < w.heap.size
  · exact hg
  · rw [World.cell?] at h1
    simp [Array.getElem?_eq_none (Nat.not_lt.1 hg)] at h1

/-- the parser's block -/
def parB (g cap : Nat) (l : List Tok) (σ : PS) : Obj := .cells #[.slice (some ⟨g, 0, none⟩) l.length cap, .int .i64 (σ.a : Int), .int .i64 σ.c, .int .i64 (σ.p : Int)] 206 (0, 0)
structure ParAt (w : World) (P g cap : Nat) (l : List Tok) (σ : PS) : Prop where
  blk : w.heap[P]? = some (parB g cap l σ)
  toks : ToksIn w g l
  ne : g ≠ P
  ended : Ended l
  fine : Fine l σ
  small : l.length ≤ 100000
theorem ParAt.below {w w' : World} {P g cap : Nat} {l : List Tok} {σ : PS} (h : ParAt w P g cap l σ) (hb : Below w.heap.size w w') : ParAt w' P g cap l σ :=
  { h with blk := blk_below h.blk hb (blk_lt h.blk), toks := h.toks.kept (hb.block g (h.toks.lt h.ended.1)) }
theorem ParAt.grown {w w' : World} {P g cap : Nat} {l : List Tok} {σ τ : PS} (h : ParAt w P g cap l σ) (hg : w.grownBy w' (some P)) (hb : w'.heap[P]? = some (parB g cap l τ)) (hf : Fine l τ) : ParAt w' P g cap l τ :=
  { h with blk := hb, toks := h.toks.kept (hg.block g (h.toks.lt h.ended.1) (fun e => h.ne (by cases e; rfl))), fine := hf }
/-- what a step of the parser comes to -/
structure ParPost (w : World) (P g cap : Nat) (l : List Tok) (τ : PS) (w' : World) : Prop where
  grown : w.grownBy w' (some P)
  par : ParAt w' P g cap l τ
theorem ParPost.of_below {w w' : World} {P g cap : Nat} {l : List Tok} {σ : PS} (h : ParAt w P g cap l σ) (hb : Below w.heap.size w w') : ParPost w P g cap l σ w' :=
  ⟨grown_below (World.grownBy.refl _ _) hb, h.below hb⟩
theorem ParPost.below {w w1 w' : World} {P g cap : Nat} {l : List Tok} {σ : PS} (h : ParPost w P g cap l σ w1) (hb : Below w1.heap.size w1 w') : ParPost w P g cap l σ w' :=
  ⟨grown_below h.grown hb, h.par.below hb⟩
theorem ParPost.trans {w w1 w' : World} {P g cap : Nat} {l : List Tok} {σ τ : PS} (h : ParPost w P g cap l σ w1) (h2 : ParPost w1 P g cap l τ w') : ParPost w P g cap l τ w' :=
  ⟨World.grownBy.trans h.grown h2.grown, h2.par⟩
theorem par_set {w : World} {P g cap : Nat} {l : List Tok} {σ τ : PS} {j : Nat} {v : Value} (h : w.heap[P]? = some (parB g cap l σ)) (e : parB g cap l τ = .cells ((#[.slice (some ⟨g, 0, none⟩) l.length cap, .int .i64 (σ.a : Int), .int .i64 σ.c, .int .i64 (σ.p : Int)] : Array Value).setIfInBounds j v) 206 (0, 0)) :
    (w.setCell ⟨P, j, none⟩ v).heap[P]? = some (parB g cap l τ) := by
  rw [blk_set h, e]

def tokA (t : Tok) : Value := .agg #[.int .i64 t.kind, .string t.text, .int .i64 (t.pos : Int)]


set_option maxHeartbeats 1000000 in
set_option maxRecDepth 100000 in
theorem here_calls (P g cap : Nat) (l : List Tok) (σ : PS) (w : World) (h : ParAt w P g cap l σ) :
    Calls Tryd.prog 144 #[.pointer (some ⟨P, 0, none⟩)] w fun e w' => e = .returned (tokA (hereT l σ.a)) ∧ Below w.heap.size w w' := by
  have h0 := h.ended.1
  have hs := h.small
  have hfa := h.fine.1
  have lP := blk_lt h.blk
  have lg := h.toks.lt h0
  obtain ⟨m, hm⟩ : ∃ m, m = min σ.a (l.length - 1) := ⟨_, rfl⟩
  have hml : m < l.length := by omega
  obtain ⟨t0, t1, t2⟩ := h.toks m hml
  have hmI : min (σ.a : Int) ((l.length : Int) - 1) = (m : Int) := by omega
  have hmI0 : (0 : Int) ≤ (m : Int) := by omega
  have hmIl : (m : Int) < (l.length : Int) := by omega
  have HM := Lib.hid hm
  have hT : hereT l σ.a = (l[m]?).getD tok0 := by rw [hereT, ← hm]
  rw [hT]
  generalize (l[m]?).getD tok0 = t at *
  have HB := Lib.hid h
  clear hm hT h
  go_enter Tryd.func144, Tryd.ntmps144
  go_wp2_with fail
  obtain ⟨W, hW⟩ : ∃ W, W = w.alloc (Obj.cells #[Value.int .i64 0, Value.string ⟨#[]⟩, Value.int .i64 0] 103) := ⟨_, rfl⟩
  have hB : Below w.heap.size w W := by rw [hW]; exact below1 _ _
  have hO : W.heap[w.heap.size]? = some (Obj.cells #[Value.int .i64 0, Value.string ⟨#[]⟩, Value.int .i64 0] 103 (0, 0)) := by rw [hW]; exact blk_new _ _
  rw [← hW]
  have hPb := (HB.out.below hB).blk
  have p0 : W.cell? ⟨P, 0, none⟩ = some (.slice (some ⟨g, 0, none⟩) l.length cap) := by rw [blk_cell hPb]; rfl
  have p1 : W.cell? ⟨P, 1, none⟩ = some (.int .i64 (σ.a : Int)) := by rw [blk_cell hPb]; rfl
  have p2 : W.cell? ⟨P, 2, none⟩ = some (.int .i64 σ.c) := by rw [blk_cell hPb]; rfl
  have p3 : W.cell? ⟨P, 3, none⟩ = some (.int .i64 (σ.p : Int)) := by rw [blk_cell hPb]; rfl
  have y1 : W.frozen? ⟨P, 1, none⟩ = false := blk_frozen hPb _
  have y2 : W.frozen? ⟨P, 2, none⟩ = false := blk_frozen hPb _
  have y3 : W.frozen? ⟨P, 3, none⟩ = false := blk_frozen hPb _
  have t0' := cell_kept t0 hB
  have t1' := cell_kept t1 hB
  have t2' := cell_kept t2 hB
  have HBw := Lib.hid hB
  obtain ⟨O, hOe⟩ : ∃ O, O = w.heap.size := ⟨_, rfl⟩
  rw [← hOe] at hO lP lg ⊢
  have o0 : W.cell? ⟨O, 0, none⟩ = some (.int .i64 0) := by rw [blk_cell hO]; rfl
  have o1 : W.cell? ⟨O, 1, none⟩ = some (.string ⟨#[]⟩) := by rw [blk_cell hO]; rfl
  have o2 : W.cell? ⟨O, 2, none⟩ = some (.int .i64 0) := by rw [blk_cell hO]; rfl
  have q0 : W.frozen? ⟨O, 0, none⟩ = false := blk_frozen hO _
  have q1 : W.frozen? ⟨O, 1, none⟩ = false := blk_frozen hO _
  have q2 : W.frozen? ⟨O, 2, none⟩ = false := blk_frozen hO _
  have hOw : w.heap.size ≤ O := by omega
  clear hB hO hPb hW hOe t0 t1 t2
  (have hX := SameAs.cell W 1; refine wp_region_same_tail 17 (by kernel_rfl) (by kernel_rfl) ?_; simp only [List.take_succ_cons, List.take_zero, List.drop_succ_cons, List.drop_zero]; (repeat (go_big_quiet_step (fail))); refine wpQuiet_nil ?_; clear hX)
  go_wp2_with fail
  refine bodyPost_ret (v := tokA t) (by simp [results, Tryd.results144, go_sem, tokA, *]) rfl ?_
  have hB := HBw.out
  exact ⟨rfl, by (repeat' (first | (with_reducible exact Below.refl _ _) | (with_reducible assumption) | (with_reducible refine below_drewN ?_ _) | (with_reducible refine Below.alloc ?_ ?_ _) | (with_reducible refine Below.drew ?_) | (with_reducible refine Below.setCell ?_ ?_ _) | (with_reducible refine Below.trans ?_ (Below.mono (by assumption) ?_)) | go_size))⟩

end Go.Proofs.YtejpjclbeogajaaDoor
