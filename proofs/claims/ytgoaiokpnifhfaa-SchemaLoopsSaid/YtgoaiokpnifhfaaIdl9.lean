/-
  Layer 4: the whole text.
-/
import Derived.Test.YtgoaiokpnifhfaaIdl8
import Derived.Deep.RegionLaw
import Derived.Deep.DeepCutAuto
import Derived.Deep.DrawnRows
namespace Go.Proofs.Ytgoaiokpnifhfaa
open Go.RowKit
set_option linter.unusedVariables false
set_option linter.unusedSimpArgs false
attribute [local go_sem ↓] Go.wp_at_zero Go.wp_at_succ

/-- a Go function's call whose result is known but for one value, as one step of a region that draws -/
theorem step_callE {Pr : Program} {ops : Array Oper} {o : Oper} {a : Act} {w : World} {K : Act → World → Prop} {Q : Exit → Act → World → Prop} {E : Prop} (hg : o.guard = none) (f : FuncId) (args : Array Value) (hrun : (execOp a.eval o).run Pr w = .ok (.enter f args) w)
    (V : Value → Value) (S : Value → World → Prop) (hC : Calls Pr f args w fun e w' => ∃ x, e = .returned (V x) ∧ S x w') (h : ∀ x w', S x w' → K (a.put o.dst (V x)) w') : if Region.wanted o (yielded ops a.tmps) = true then Oper.wp Pr o a w K Q else E := by
  have hw : Region.wanted o (yielded ops a.tmps) = true := by simp [Region.wanted, hg]
  rw [if_pos hw]
  unfold Oper.wp
  rw [hrun]
  simp only [Oper.upon]
  exact hC.mono fun e w' hh => by obtain ⟨x, rfl, hs⟩ := hh; exact h x w' hs

theorem info_rec : (Try.prog.info? 35).map (fun i => (i.zero, i.size, i.bytes)) = some (some (.agg #[.string ⟨#[]⟩, .int .i64 0, .slice none 0 0]), 3, 48) := by kernel_rfl
theorem info_cho : (Try.prog.info? 97).map (fun i => (i.zero, i.size, i.bytes)) = some (some (.agg #[.string ⟨#[]⟩, .int .i64 0, .slice none 0 0]), 3, 48) := by kernel_rfl

/-- a schema as it is written, in memory -/
def RawIn (w : World) (A : Nat → Prop) (vs ve vr : Value) (r : RawD) : Prop :=
  ∃ sl el, SliceAt w A vs r.structs.length (recsL r.structs sl) ∧ SliceAt w A ve r.enums.length (chosL r.enums el) ∧ SliceAt w A vr r.roots.length (tokCells r.roots) ∧ InnersAt w A fldN fldC r.structs sl ∧ InnersAt w A itmN itmC r.enums el
def RawAt (w : World) (vs ve vr : Value) (r : RawD) : Prop := RawIn w (fun _ => True) vs ve vr r
theorem RawIn.kept {w w' : World} {A A' : Nat → Prop} {vs ve vr : Value} {r : RawD} (h : RawIn w A vs ve vr r) (hs : w.heap.size ≤ w'.heap.size) (hk : ∀ q, A q → q < w.heap.size → w'.heap[q]? = w.heap[q]? ∧ A' q) : RawIn w' A' vs ve vr r := by
  obtain ⟨sl, el, h1, h2, h3, h4, h5⟩ := h
  exact ⟨sl, el, h1.kept hs hk, h2.kept hs hk, h3.kept hs hk, h4.kept hs hk, h5.kept hs hk⟩
theorem RawAt.below {w w' : World} {vs ve vr : Value} {r : RawD} (h : RawAt w vs ve vr r) (hb : Below w.heap.size w w') : RawAt w' vs ve vr r := RawIn.kept h hb.size (fun q _ hq => ⟨hb.block q hq, trivial⟩)
theorem RawIn.far {w : World} {O R : Nat} {vs ve vr : Value} {r : RawD} (h : RawIn w (fun q => O < q) vs ve vr r) (hR : R < O) (j : Nat) (x : Value) : RawIn (w.setCell ⟨R, j, none⟩ x) (fun q => O < q) vs ve vr r :=
  h.kept (by rw [World.size_setCell]; exact Nat.le_refl _) (fun q hq _ => ⟨Below.heap_setCell _ _ _ _ (by simp at hq ⊢; omega), hq⟩)
theorem RawIn.setc {w : World} {A : Nat → Prop} {R : Nat} {vs ve vr : Value} {r : RawD} (h : RawIn w A vs ve vr r) (hR : ∀ q, A q → q ≠ R) (j : Nat) (x : Value) : RawIn (w.setCell ⟨R, j, none⟩ x) A vs ve vr r :=
  h.kept (by rw [World.size_setCell]; exact Nat.le_refl _) (fun q hq _ => ⟨Below.heap_setCell _ _ _ _ (hR q hq), hq⟩)
theorem RawIn.raw {w : World} {A : Nat → Prop} {vs ve vr : Value} {r : RawD} (h : RawIn w A vs ve vr r) : RawAt w vs ve vr r := h.kept (Nat.le_refl _) (fun _ _ _ => ⟨rfl, trivial⟩)
theorem AllI.rawIn {w0 : World} {P g cap : Nat} {l : List Tok} {O : Nat} {vs ve vr : Value} {sl el : List Value} {σ : PS} {r : RawD} {w : World} (h : AllI w0 P g cap l O vs ve vr sl el σ r w) : RawIn w (fun q => O < q) vs ve vr r :=
  ⟨sl, el, SliceAt.of_own h.so (fun q _ h3 _ => Nat.lt_of_lt_of_le (Nat.lt_succ_self O) h3), SliceAt.of_own h.eo (fun q _ h3 _ => Nat.lt_of_lt_of_le (Nat.lt_succ_self O) h3), SliceAt.of_own h.ro (fun q _ h3 _ => Nat.lt_of_lt_of_le (Nat.lt_succ_self O) h3), h.si.kept (Nat.le_refl _) (fun q hq _ => ⟨rfl, hq.1⟩), h.ei.kept (Nat.le_refl _) (fun q hq _ => ⟨rfl, hq.1⟩)⟩
theorem AllI.apart_new {w0 : World} {P g cap : Nat} {l : List Tok} {O : Nat} {vs ve vr : Value} {sl el : List Value} {σ : PS} {r : RawD} {w : World} (h : AllI w0 P g cap l O vs ve vr sl el σ r w) {q : Nat} (hq : w.heap.size ≤ q) : ApartOf O vs ve vr q :=
  ⟨by have := blk_lt h.out; omega, fun e => by have := (h.so.lt q e).2; omega, fun e => by have := (h.eo.lt q e).2; omega, fun e => by have := (h.ro.lt q e).2; omega⟩
theorem grows_of {O : Nat} {v : Value} {w w2 : World} {g2 n c : Nat} (hg : w.grownBy w2 v.ownBlock) (ha : v.ownBlock = some g2 ∨ g2 = w.heap.size) : Grows O v (.slice (some ⟨g2, 0, none⟩) n c) w w2 :=
  ⟨hg, fun q e => by have e2 : g2 = q := Option.some.inj e; rw [← e2]; exact ha⟩
theorem all_struct_app {w0 : World} {P g cap : Nat} {l : List Tok} {O : Nat} {vs ve vr : Value} {sl el : List Value} {σ : PS} {r : RawD} {wB w8 : World} {o : Obj} (h : AllI w0 P g cap l O vs ve vr sl el σ r wB) (hP : P < w0.heap.size) (hg : g < w0.heap.size) (hO : w0.heap.size ≤ O)
    (X : RRec) (vx : Value) (hx : SliceAt wB (ApartOf O vs ve vr) vx (fldN X) (fldC X)) {g2 c : Nat} (hgr : (wB.alloc o).grownBy w8 vs.ownBlock) (ha : vs.ownBlock = some g2 ∨ g2 = (wB.alloc o).heap.size) (ho : w8.ownsRow (O + 1) 35 3 (.slice (some ⟨g2, 0, none⟩) (r.structs.length + 1) c) (r.structs.length + 1) (recsL r.structs sl ++ [.string X.name, .int .i64 (X.pos : Int), vx])) :
    AllI w0 P g cap l O (.slice (some ⟨g2, 0, none⟩) (r.structs.length + 1) c) ve vr (sl ++ [vx]) el σ ⟨r.structs ++ [X], r.enums, r.roots⟩ (w8.setCell ⟨O, 0, none⟩ (.slice (some ⟨g2, 0, none⟩) (r.structs.length + 1) c)) :=
  (h.step hP hO (ParPost.of_below h.post.par (below1 _ _))).structs hP hg hO X vx (hx.kept (by simp) (fun q hq hl => ⟨Below.heap_alloc _ _ _ hl, hq⟩)) (grows_of hgr ha) ho
theorem all_enum_app {w0 : World} {P g cap : Nat} {l : List Tok} {O : Nat} {vs ve vr : Value} {sl el : List Value} {σ : PS} {r : RawD} {wB w8 : World} {o : Obj} (h : AllI w0 P g cap l O vs ve vr sl el σ r wB) (hP : P < w0.heap.size) (hg : g < w0.heap.size) (hO : w0.heap.size ≤ O)
    (X : RChoice) (vx : Value) (hx : SliceAt wB (ApartOf O vs ve vr) vx (itmN X) (itmC X)) {g2 c : Nat} (hgr : (wB.alloc o).grownBy w8 ve.ownBlock) (ha : ve.ownBlock = some g2 ∨ g2 = (wB.alloc o).heap.size) (ho : w8.ownsRow (O + 1) 97 3 (.slice (some ⟨g2, 0, none⟩) (r.enums.length + 1) c) (r.enums.length + 1) (chosL r.enums el ++ [.string X.name, .int .i64 (X.pos : Int), vx])) :
    AllI w0 P g cap l O vs (.slice (some ⟨g2, 0, none⟩) (r.enums.length + 1) c) vr sl (el ++ [vx]) σ ⟨r.structs, r.enums ++ [X], r.roots⟩ (w8.setCell ⟨O, 1, none⟩ (.slice (some ⟨g2, 0, none⟩) (r.enums.length + 1) c)) :=
  (h.step hP hO (ParPost.of_below h.post.par (below1 _ _))).enums hP hg hO X vx (hx.kept (by simp) (fun q hq hl => ⟨Below.heap_alloc _ _ _ hl, hq⟩)) (grows_of hgr ha) ho
theorem all_root_app {w0 : World} {P g cap : Nat} {l : List Tok} {O : Nat} {vs ve vr : Value} {sl el : List Value} {σ : PS} {r : RawD} {wB w8 : World} {o : Obj} (h : AllI w0 P g cap l O vs ve vr sl el σ r wB) (hP : P < w0.heap.size) (hg : g < w0.heap.size) (hO : w0.heap.size ≤ O)
    (X : Tok) {g2 c : Nat} (hgr : (wB.alloc o).grownBy w8 vr.ownBlock) (ha : vr.ownBlock = some g2 ∨ g2 = (wB.alloc o).heap.size) (ho : w8.ownsRow (O + 1) 41 3 (.slice (some ⟨g2, 0, none⟩) (r.roots.length + 1) c) (r.roots.length + 1) (tokCells r.roots ++ [.int .i64 X.kind, .string X.text, .int .i64 (X.pos : Int)])) :
    AllI w0 P g cap l O vs ve (.slice (some ⟨g2, 0, none⟩) (r.roots.length + 1) c) sl el σ ⟨r.structs, r.enums, r.roots ++ [X]⟩ (w8.setCell ⟨O, 2, none⟩ (.slice (some ⟨g2, 0, none⟩) (r.roots.length + 1) c)) :=
  (h.step hP hO (ParPost.of_below h.post.par (below1 _ _))).roots hP hg hO X (grows_of hgr ha) ho
def AllPost (w : World) (P g cap : Nat) (l : List Tok) (e : Ending) (w' : World) : Prop :=
  ∃ vs ve vr, e = .returned (.agg #[vs, ve, vr]) ∧ RawIn w' (fun q => w.heap.size ≤ q) vs ve vr (allR l).1 ∧ ParPost w P g cap l (allR l).2 w'

def cntR (r : RawD) : Nat := r.structs.length + r.enums.length + r.roots.length
theorem declV_cnt (l : List Tok) (σ : PS) (r : RawD) : cntR (declV l σ r) ≤ cntR r + 1 := by
  unfold declV cntR
  repeat' split
  all_goals simp
  all_goals omega


set_option maxHeartbeats 8000000 in
set_option maxRecDepth 100000 in
theorem all_calls (P g cap : Nat) (l : List Tok) (w : World) (h : ParAt w P g cap l ⟨0, 0, 0⟩) :
    Calls Try.prog 13 #[.pointer (some ⟨P, 0, none⟩)] w (AllPost w P g cap l) := by
  have lP := blk_lt h.blk
  have lg := h.toks.lt h.ended.1
  have HE := Lib.hid h.ended
  have hsm := h.small
  have H := Lib.hid h
  obtain ⟨ir, hir, hr0, hr1, hr2⟩ := info_parts info_rec
  obtain ⟨ic, hic, hc0, hc1, hc2⟩ := info_parts info_cho
  obtain ⟨it, hit, ht0, ht1, ht2⟩ := info_parts info_token
  have kf := fun (w : World) (a b c : Value) => field_tok0 w a b c
  have hz : allR l = allLoop l (l.length + 1) ⟨0, 0, 0⟩ ⟨[], [], []⟩ := rfl
  have HZ := Lib.hid hz
  clear h hz
  go_enter Try.func13, Try.ntmps13
  go_wp2_with fail
  obtain ⟨R, hR⟩ : ∃ R, R = w.heap.size := ⟨_, rfl⟩
  obtain ⟨w0, hw0⟩ : ∃ w0, w0 = w.alloc (Obj.cells #[Value.slice none 0 0, Value.slice none 0 0, Value.slice none 0 0] 27) := ⟨_, rfl⟩
  have hb0 : Below w.heap.size w w0 := by rw [hw0]; exact below1 _ _
  have hRes : w0.heap[R]? = some (Obj.cells #[Value.slice none 0 0, Value.slice none 0 0, Value.slice none 0 0] 27) := by rw [hw0, hR]; exact blk_new _ _
  have hs0 : w0.heap.size = w.heap.size + 1 := by rw [hw0]; simp
  obtain ⟨O, hO⟩ : ∃ O, O = w.heap.size + 1 := ⟨_, rfl⟩
  have hP0 : P < w0.heap.size := by omega
  have hg0 : g < w0.heap.size := by omega
  have hO0 : w0.heap.size ≤ O := by omega
  have hRO : R < O := by omega
  have hRw : w.heap.size ≤ R := by omega
  have hA0 : AllI w0 P g cap l O (.slice none 0 0) (.slice none 0 0) (.slice none 0 0) [] [] ⟨0, 0, 0⟩ ⟨[], [], []⟩ (w0.alloc (Obj.cells #[Value.slice none 0 0, Value.slice none 0 0, Value.slice none 0 0] 27)) := by
    refine ⟨ParPost.of_below (H.out.below hb0) (below1 _ _), ?_, World.ownsRow_nil _ _ _ _, World.ownsRow_nil _ _ _ _, World.ownsRow_nil _ _ _ _, trivial, trivial, (fun q e => by cases e), (fun q e => by cases e)⟩
    rw [hO, ← hs0]; exact blk_new _ _
  rw [← hw0, ← hO, ← hR]
  have HA0 := Lib.hid hA0
  have HB0 := Lib.hid hb0
  have HRES := Lib.hid hRes
  clear hA0 hb0 hRes hw0 hR hO hs0
  go_loopw [4] (fun _ wr => ∃ (f : Nat) (τ : PS) (r : RawD) (vs ve vr : Value) (sl el : List Value), left l τ ≤ f ∧ cntR r + left l τ ≤ l.length + 1 ∧ Hid (allR l = allLoop l f τ r) ∧ Hid (AllI w0 P g cap l O vs ve vr sl el τ r wr)) (fun _ wr => parLeft wr P l)
  case atStart => exact ⟨l.length + 1, _, _, _, _, _, [], [], left_le, by have := @left_le l ⟨0, 0, 0⟩; simp [cntR]; omega, HZ.out, HA0.out⟩
  case round =>
    obtain ⟨f, τ, r, vs, ve, vr, sl, el, hf, hcn, hs, hI⟩ := hrel
    have hpar := hI.out.post.par
    have p2 : wr.cell? ⟨P, 2, none⟩ = some (.int .i64 τ.c) := by rw [blk_cell hpar.blk]; rfl
    have lPr := blk_lt hpar.blk
    have HPL := Lib.hid (parLeft_of hpar)
    obtain ⟨t, htt⟩ : ∃ t, hereT l τ.a = t := ⟨_, rfl⟩
    have hh := fun (W : World) (h : ParAt W P g cap l τ) => here_calls P g cap l τ W h
    rw [htt] at hh
    have hh2 : ∀ (W : World), ParAt W P g cap l τ → Calls Try.prog 24 #[.pointer (some ⟨P, 0, none⟩)] W fun e w' => e = .returned (.agg #[.int .i64 t.kind, .string t.text, .int .i64 (t.pos : Int)]) ∧ Below W.heap.size W w' := hh
    have HH := Lib.hid hh2
    have HTT := Lib.hid htt
    clear hh hh2 htt
    by_cases h0 : τ.c = 0
    · have b0 : (τ.c == 0) = true := by rw [beq_iff_eq]; exact h0
      by_cases hk : t.kind = 0
      · have k1 : (t.kind != 0) = false := by rw [hk]; rfl
        have HR := Lib.hid (show allR l = (r, τ) by rw [hs.out, allLoop_stop (fun h => h.2 (by rw [HTT.out]; exact hk))])
        clear h0 hk hpar
        go_wp2_with fail
        refine (HH.out _ hI.out.post.par).mono ?_
        rintro e w2 ⟨rfl, hB2⟩
        have hI2 := hI.out.step hP0 hO0 (ParPost.of_below hI.out.post.par hB2)
        clear hB2 p2
        have hO2 := hI2.out
        obtain ⟨avs, cvs, rfl⟩ := own_len hI2.so
        obtain ⟨ave, cve, rfl⟩ := own_len hI2.eo
        obtain ⟨avr, cvr, rfl⟩ := own_len hI2.ro
        have o0 : w2.cell? ⟨O, 0, none⟩ = some (.slice avs r.structs.length cvs) := by rw [blk_cell hO2]; rfl
        have o1 : w2.cell? ⟨O, 1, none⟩ = some (.slice ave r.enums.length cve) := by rw [blk_cell hO2]; rfl
        have o2 : w2.cell? ⟨O, 2, none⟩ = some (.slice avr r.roots.length cvr) := by rw [blk_cell hO2]; rfl
        have hR2 := blk_grown HRES.out hI2.post.grown (by omega)
        have r0 : w2.cell? ⟨R, 0, none⟩ = some (.slice none 0 0) := by rw [blk_cell hR2]; rfl
        have r1 : w2.cell? ⟨R, 1, none⟩ = some (.slice none 0 0) := by rw [blk_cell hR2]; rfl
        have r2 : w2.cell? ⟨R, 2, none⟩ = some (.slice none 0 0) := by rw [blk_cell hR2]; rfl
        have z0 : w2.frozen? ⟨R, 0, none⟩ = false := blk_frozen hR2 _
        have z1 : w2.frozen? ⟨R, 1, none⟩ = false := blk_frozen hR2 _
        have z2 : w2.frozen? ⟨R, 2, none⟩ = false := blk_frozen hR2 _
        have HI2 := Lib.hid hI2
        clear hI2 hO2 hR2
        go_wp2_with fail
        refine bodyPost_ret (v := .agg #[.slice avs r.structs.length cvs, .slice ave r.enums.length cve, .slice avr r.roots.length cvr]) (by simp [results, Try.results13, go_sem, *]) rfl ?_
        unfold AllPost
        rw [HR.out]
        exact ⟨_, _, _, rfl, (((HI2.out.rawIn.far hRO 0 _).far hRO 1 _).far hRO 2 _).kept (Nat.le_refl _) (fun q hq _ => ⟨rfl, (by have h9 : O < q := hq; omega : w.heap.size ≤ q)⟩), ((((ParPost.of_below H.out HB0.out).trans HI2.out.post).far hRw lP lg 0 _).far hRw lP lg 1 _).far hRw lP lg 2 _⟩
      · have k1 : (t.kind != 0) = true := by rw [bne_iff_ne]; exact hk
        have hst := allLoop_step (f := f) (r := r) hf hpar.fine h0 (by rw [HTT.out]; exact hk)
        obtain ⟨f', rfl, hst⟩ := hst
        have hmv := declS_moves HE.out hpar.fine
        have HML := Lib.hid (hmv.left h0 hpar.fine)
        have hff : left l (declS l τ) ≤ f' := by have := HML.out; omega
        have hcc : cntR (declV l τ r) + left l (declS l τ) ≤ l.length + 1 := by have := HML.out; have := declV_cnt l τ r; omega
        have hcl : cntR r ≤ l.length := by have := HML.out; omega
        have hls : r.structs.length ≤ l.length := by unfold cntR at hcl; omega
        have hle : r.enums.length ≤ l.length := by unfold cntR at hcl; omega
        have hlr : r.roots.length ≤ l.length := by unfold cntR at hcl; omega
        have HST := Lib.hid (hs.out.trans hst)
        clear h0 hk hpar hst hmv hcl hs
        go_wp2_with fail
        refine (HH.out _ hI.out.post.par).mono ?_
        rintro e w2 ⟨rfl, hB2⟩
        have HI2 := Lib.hid (hI.out.step hP0 hO0 (ParPost.of_below hI.out.post.par hB2))
        clear hB2 p2
        go_wp2_with fail
        refine (word_calls P g cap l τ cStruct w2 HI2.out.post.par).mono ?_
        rintro e w3 ⟨rfl, hp3⟩
        have hI3 := HI2.out.step hP0 hO0 hp3
        clear hp3
        cases h1 : isT l 1 cStruct τ with
        | true =>
          have HDS : declS l τ = recS l (goS τ) := by rw [declS, if_pos h1]
          have HDV : declV l τ r = ⟨r.structs ++ [recV l (goS τ)], r.enums, r.roots⟩ := by rw [declV, if_pos h1]
          rw [show takeS l 1 cStruct τ = goS τ by rw [takeS, if_pos h1]] at hI3
          obtain ⟨υ, hυ⟩ : ∃ υ, goS τ = υ := ⟨_, rfl⟩
          rw [hυ] at hI3 HDS HDV
          have hI3d := hI3.step hP0 hO0 (ParPost.of_below hI3.post.par (Below.drew (Below.refl _ _)))
          have hrec : Calls Try.prog 26 #[.pointer (some ⟨P, 0, none⟩)] w3.drew fun e w' => ∃ v, e = .returned ((fun v => .agg #[.string (recV l υ).name, .int .i64 ((recV l υ).pos : Int), v]) v) ∧ (fun v w' => w'.ownsRow w3.drew.heap.size 43 8 v (fldN (recV l υ)) (fldC (recV l υ)) ∧ ParPost w3.drew P g cap l (recS l υ) w') v w' := record_calls P g cap l υ _ (hI3.post.par.below (Below.drew (Below.refl _ _)))
          obtain ⟨X, hX⟩ : ∃ X, recV l υ = X := ⟨_, rfl⟩
          obtain ⟨ζ, hζ⟩ : ∃ ζ, recS l υ = ζ := ⟨_, rfl⟩
          rw [hX, hζ] at hrec
          rw [hX] at HDV
          rw [hζ] at HDS
          have HREC := Lib.hid hrec
          have HI3 := Lib.hid hI3
          have HI3d := Lib.hid hI3d
          have HDS := Lib.hid HDS
          have HDV := Lib.hid HDV
          clear hrec hI3 hI3d hX hζ hυ h1
          obtain ⟨av, cv, hav⟩ := own_len HI3d.out.so
          subst hav
          have c0 : w3.cell? ⟨O, 0, none⟩ = some (.slice av r.structs.length cv) := by rw [blk_cell HI3.out.out]; rfl
          have d0 : w3.frozen? ⟨O, 0, none⟩ = false := blk_frozen HI3.out.out _
          have lO3 := blk_lt HI3.out.out
          have hOP : O ≠ P := by omega
          go_wp2_with fail
          go_region_law (first
            | (refine step_append_lies _ (by rfl) _ _ 23 (by rfl) (O + 1) 35 ir _ 3 48 Try.underlying23 hir hr0 hr1 hr2 (by rfl) (by decide) _ _ _ (by rfl) (HB.out.so.alloc _) ⟨wB.heap.size, 0, none⟩ 1 1 [.string X.name, .int .i64 (X.pos : Int), .slice ax (fldN X) cx] (by rfl) (by rfl) (news_tok _ _ _ _ _) (by simp [Value.oneCell']) (by decide) (by unfold maxLen; omega) (by omega) (by simp; have := blk_lt HB.out.out; omega) _ rfl ?_; intro g2 cap2 w8 hown8 hgr8 hat8 hlt8; have hC8 := Lib.hid (all_struct_app HB.out hP0 hg0 hO0 X _ HXS.out hgr8 hat8 hown8); have hO8 : w8.heap[O]? = _ := (hgr8.block O (by simp; have := blk_lt HB.out.out; omega) (fun e => by have := (HB.out.so.lt _ e.symm).1; omega)).trans (blk_alloc HB.out.out _); have c8 : w8.cell? ⟨O, 0, none⟩ = some (.slice av r.structs.length cv) := ((blk_cell hO8 0).trans rfl); have d8 : w8.frozen? ⟨O, 0, none⟩ = false := blk_frozen hO8 _; clear hO8 hgr8 hown8 hat8)
            | (refine step_callE (by rfl) 26 #[.pointer (some ⟨P, 0, none⟩)] (by go_simp) _ _ HREC.out ?_; intro vx wB hS; have HB := Lib.hid (HI3d.out.step hP0 hO0 hS.2); have HXS := Lib.hid (SliceAt.of_own hS.1 (fun q _ h3 _ => HI3d.out.apart_new h3)); obtain ⟨ax, cx, hvx⟩ := own_len hS.1; subst hvx; have c1 : wB.cell? ⟨O, 0, none⟩ = _ := ((blk_cell HB.out.out 0).trans rfl); have lOB := blk_lt HB.out.out; clear hS))
          all_goals
            have HI9 := hC8
            go_wp2_with fail
            go_roundw
            case rel => exact ⟨f', _, _, _, _, _, _, _, hff, hcc, HST.out, by rw [HDS.out, HDV.out]; exact HI9.out⟩
            case measure => rw [parLeft_of HI9.out.post.par, HPL.out, ← HDS.out]; exact HML.out
        | false =>
          have h0s := Lib.hid h1
          rw [show takeS l 1 cStruct τ = τ by rw [takeS, if_neg (by rw [h1]; simp)]] at hI3
          have HI3 := Lib.hid hI3
          clear h1 hI3
          go_wp2_with fail
          refine (word_calls P g cap l τ cEnum _ HI3.out.post.par).mono ?_
          rintro e w4 ⟨rfl, hp4⟩
          have hI4 := HI3.out.step hP0 hO0 hp4
          clear hp4 HI3
          cases h2 : isT l 1 cEnum τ with
          | true =>
            have HDS : declS l τ = choS l (goS τ) := by rw [declS, if_neg (by rw [h0s.out]; simp), if_pos h2]
            have HDV : declV l τ r = ⟨r.structs, r.enums ++ [choV l (goS τ)], r.roots⟩ := by rw [declV, if_neg (by rw [h0s.out]; simp), if_pos h2]
            rw [show takeS l 1 cEnum τ = goS τ by rw [takeS, if_pos h2]] at hI4
            obtain ⟨υ, hυ⟩ : ∃ υ, goS τ = υ := ⟨_, rfl⟩
            rw [hυ] at hI4 HDS HDV
            have hI4d := hI4.step hP0 hO0 (ParPost.of_below hI4.post.par (Below.drew (Below.refl _ _)))
            have hrec : Calls Try.prog 27 #[.pointer (some ⟨P, 0, none⟩)] w4.drew fun e w' => ∃ v, e = .returned ((fun v => .agg #[.string (choV l υ).name, .int .i64 ((choV l υ).pos : Int), v]) v) ∧ (fun v w' => w'.ownsRow w4.drew.heap.size 41 3 v (itmN (choV l υ)) (itmC (choV l υ)) ∧ ParPost w4.drew P g cap l (choS l υ) w') v w' := choice_calls P g cap l υ _ (hI4.post.par.below (Below.drew (Below.refl _ _)))
            obtain ⟨X, hX⟩ : ∃ X, choV l υ = X := ⟨_, rfl⟩
            obtain ⟨ζ, hζ⟩ : ∃ ζ, choS l υ = ζ := ⟨_, rfl⟩
            rw [hX, hζ] at hrec
            rw [hX] at HDV
            rw [hζ] at HDS
            have HREC := Lib.hid hrec
            have HI4 := Lib.hid hI4
            have HI4d := Lib.hid hI4d
            have HDS := Lib.hid HDS
            have HDV := Lib.hid HDV
            clear hrec hI4 hI4d hX hζ hυ h2
            obtain ⟨av, cv, hav⟩ := own_len HI4d.out.eo
            subst hav
            have c0 : w4.cell? ⟨O, 1, none⟩ = some (.slice av r.enums.length cv) := by rw [blk_cell HI4.out.out]; rfl
            have d0 : w4.frozen? ⟨O, 1, none⟩ = false := blk_frozen HI4.out.out _
            have lO4 := blk_lt HI4.out.out
            have hOP : O ≠ P := by omega
            go_wp2_with fail
            go_region_law (first
              | (refine step_append_lies _ (by rfl) _ _ 24 (by rfl) (O + 1) 97 ic _ 3 48 Try.underlying24 hic hc0 hc1 hc2 (by rfl) (by decide) _ _ _ (by rfl) (HB.out.eo.alloc _) ⟨wB.heap.size, 0, none⟩ 1 1 [.string X.name, .int .i64 (X.pos : Int), .slice ax (itmN X) cx] (by rfl) (by rfl) (news_tok _ _ _ _ _) (by simp [Value.oneCell']) (by decide) (by unfold maxLen; omega) (by omega) (by simp; have := blk_lt HB.out.out; omega) _ rfl ?_; intro g2 cap2 w8 hown8 hgr8 hat8 hlt8; have hC8 := Lib.hid (all_enum_app HB.out hP0 hg0 hO0 X _ HXS.out hgr8 hat8 hown8); have hO8 : w8.heap[O]? = _ := (hgr8.block O (by simp; have := blk_lt HB.out.out; omega) (fun e => by have := (HB.out.eo.lt _ e.symm).1; omega)).trans (blk_alloc HB.out.out _); have c8 : w8.cell? ⟨O, 1, none⟩ = some (.slice av r.enums.length cv) := ((blk_cell hO8 1).trans rfl); have d8 : w8.frozen? ⟨O, 1, none⟩ = false := blk_frozen hO8 _; clear hO8 hgr8 hown8 hat8)
              | (refine step_callE (by rfl) 27 #[.pointer (some ⟨P, 0, none⟩)] (by go_simp) _ _ HREC.out ?_; intro vx wB hS; have HB := Lib.hid (HI4d.out.step hP0 hO0 hS.2); have HXS := Lib.hid (SliceAt.of_own hS.1 (fun q _ h3 _ => HI4d.out.apart_new h3)); obtain ⟨ax, cx, hvx⟩ := own_len hS.1; subst hvx; have c1 : wB.cell? ⟨O, 1, none⟩ = _ := ((blk_cell HB.out.out 1).trans rfl); have lOB := blk_lt HB.out.out; clear hS))
            all_goals
              have HI9 := hC8
              go_wp2_with fail
              go_roundw
              case rel => exact ⟨f', _, _, _, _, _, _, _, hff, hcc, HST.out, by rw [HDS.out, HDV.out]; exact HI9.out⟩
              case measure => rw [parLeft_of HI9.out.post.par, HPL.out, ← HDS.out]; exact HML.out
          | false =>
            have h0t := Lib.hid h2
            rw [show takeS l 1 cEnum τ = τ by rw [takeS, if_neg (by rw [h2]; simp)]] at hI4
            have HI4 := Lib.hid hI4
            clear h2 hI4
            go_wp2_with fail
            refine (word_calls P g cap l τ cRoot _ HI4.out.post.par).mono ?_
            rintro e w5 ⟨rfl, hp5⟩
            have hI5 := HI4.out.step hP0 hO0 hp5
            clear hp5 HI4
            cases h3 : isT l 1 cRoot τ with
            | true =>
              have HDS : declS l τ = wantS l cSemi (nameS l false (goS τ)) := by rw [declS, if_neg (by rw [h0s.out]; simp), if_neg (by rw [h0t.out]; simp), if_pos h3]
              have HDV : declV l τ r = ⟨r.structs, r.enums, r.roots ++ [nameV l false (goS τ)]⟩ := by rw [declV, if_neg (by rw [h0s.out]; simp), if_neg (by rw [h0t.out]; simp), if_pos h3]
              rw [show takeS l 1 cRoot τ = goS τ by rw [takeS, if_pos h3]] at hI5
              obtain ⟨υ, hυ⟩ : ∃ υ, goS τ = υ := ⟨_, rfl⟩
              rw [hυ] at hI5 HDS HDV
              have hI5d := hI5.step hP0 hO0 (ParPost.of_below hI5.post.par (Below.drew (Below.refl _ _)))
              have hrec : Calls Try.prog 28 #[.pointer (some ⟨P, 0, none⟩), .bool false] w5.drew fun e w' => e = .returned (.agg #[.int .i64 (nameV l false υ).kind, .string (nameV l false υ).text, .int .i64 ((nameV l false υ).pos : Int)]) ∧ ParPost w5.drew P g cap l (nameS l false υ) w' := name_calls P g cap l υ false _ (hI5.post.par.below (Below.drew (Below.refl _ _)))
              obtain ⟨X, hX⟩ : ∃ X, nameV l false υ = X := ⟨_, rfl⟩
              obtain ⟨ζ, hζ⟩ : ∃ ζ, nameS l false υ = ζ := ⟨_, rfl⟩
              rw [hX, hζ] at hrec
              rw [hX] at HDV
              rw [hζ] at HDS
              have HREC := Lib.hid hrec
              have HI5 := Lib.hid hI5
              have HI5d := Lib.hid hI5d
              have HDS := Lib.hid HDS
              have HDV := Lib.hid HDV
              clear hrec hI5 hI5d hX hζ hυ h3
              obtain ⟨av, cv, hav⟩ := own_len HI5d.out.ro
              subst hav
              have c0 : w5.cell? ⟨O, 2, none⟩ = some (.slice av r.roots.length cv) := by rw [blk_cell HI5.out.out]; rfl
              have d0 : w5.frozen? ⟨O, 2, none⟩ = false := blk_frozen HI5.out.out _
              have lO5 := blk_lt HI5.out.out
              have hOP : O ≠ P := by omega
              go_wp2_with fail
              go_region_law (first
                | (refine step_append_lies _ (by rfl) _ _ 25 (by rfl) (O + 1) 41 it _ 3 32 Try.underlying25 hit ht0 ht1 ht2 (by rfl) (by decide) _ _ _ (by rfl) (HB.out.ro.alloc _) ⟨wB.heap.size, 0, none⟩ 1 1 [.int .i64 X.kind, .string X.text, .int .i64 (X.pos : Int)] (by rfl) (by rfl) (news_tok _ _ _ _ _) (by simp [Value.oneCell']) (by decide) (by unfold maxLen; omega) (by omega) (by simp; have := blk_lt HB.out.out; omega) _ rfl ?_; intro g2 cap2 w8 hown8 hgr8 hat8 hlt8; have hC8 := Lib.hid (all_root_app HB.out hP0 hg0 hO0 X  hgr8 hat8 hown8); have hO8 : w8.heap[O]? = _ := (hgr8.block O (by simp; have := blk_lt HB.out.out; omega) (fun e => by have := (HB.out.ro.lt _ e.symm).1; omega)).trans (blk_alloc HB.out.out _); have c8 : w8.cell? ⟨O, 2, none⟩ = some (.slice av r.roots.length cv) := ((blk_cell hO8 2).trans rfl); have d8 : w8.frozen? ⟨O, 2, none⟩ = false := blk_frozen hO8 _; clear hO8 hgr8 hown8 hat8)
                | (refine step_call (by rfl) 28 #[.pointer (some ⟨P, 0, none⟩), .bool false] (by go_simp) _ _ HREC.out ?_; intro wB hS; have HB := Lib.hid (HI5d.out.step hP0 hO0 hS); have c1 : wB.cell? ⟨O, 2, none⟩ = _ := ((blk_cell HB.out.out 2).trans rfl); have lOB := blk_lt HB.out.out; clear hS))
              all_goals
                go_wp2_with fail
                refine (want_calls P g cap l ζ cSemi _ hC8.out.post.par).mono ?_
                rintro e w9 ⟨rfl, hp9⟩
                have hI9 := hC8.out.step hP0 hO0 hp9
                have HI9 := Lib.hid hI9
                clear hp9 hI9
                go_wp2_with fail
                go_roundw
                case rel => exact ⟨f', _, _, _, _, _, _, _, hff, hcc, HST.out, by rw [HDS.out, HDV.out]; exact HI9.out⟩
                case measure => rw [parLeft_of HI9.out.post.par, HPL.out, ← HDS.out]; exact HML.out
            | false =>
              have HDS := Lib.hid (show declS l τ = failS l 11 τ by rw [declS, if_neg (by rw [h0s.out]; simp), if_neg (by rw [h0t.out]; simp), if_neg (by rw [h3]; simp)])
              have HDV := Lib.hid (show declV l τ r = r by rw [declV, if_neg (by rw [h0s.out]; simp), if_neg (by rw [h0t.out]; simp), if_neg (by rw [h3]; simp)])
              rw [show takeS l 1 cRoot τ = τ by rw [takeS, if_neg (by rw [h3]; simp)]] at hI5
              have HI5 := Lib.hid hI5
              clear h3 hI5
              go_wp2_with fail
              refine (fail_calls P g cap l τ 11 (by decide) _ HI5.out.post.par).mono ?_
              rintro e w9 ⟨rfl, hp9⟩
              have hI9 := HI5.out.step hP0 hO0 hp9
              have HI9 := Lib.hid hI9
              clear hp9 hI9
              go_wp2_with fail
              go_roundw
              case rel => exact ⟨f', _, _, _, _, _, _, _, hff, hcc, HST.out, by rw [HDS.out, HDV.out]; exact HI9.out⟩
              case measure => rw [parLeft_of HI9.out.post.par, HPL.out, ← HDS.out]; exact HML.out
    · have b0 : (τ.c == 0) = false := by rw [beq_eq_false_iff_ne]; exact h0
      have HR := Lib.hid (show allR l = (r, τ) by rw [hs.out, allLoop_stop (fun h => h0 h.1)])
      have hI2 := hI.out
      clear h0 hpar
      rename World => w2
      have hO2 := hI2.out
      obtain ⟨avs, cvs, rfl⟩ := own_len hI2.so
      obtain ⟨ave, cve, rfl⟩ := own_len hI2.eo
      obtain ⟨avr, cvr, rfl⟩ := own_len hI2.ro
      have o0 : w2.cell? ⟨O, 0, none⟩ = some (.slice avs r.structs.length cvs) := by rw [blk_cell hO2]; rfl
      have o1 : w2.cell? ⟨O, 1, none⟩ = some (.slice ave r.enums.length cve) := by rw [blk_cell hO2]; rfl
      have o2 : w2.cell? ⟨O, 2, none⟩ = some (.slice avr r.roots.length cvr) := by rw [blk_cell hO2]; rfl
      have hR2 := blk_grown HRES.out hI2.post.grown (by omega)
      have r0 : w2.cell? ⟨R, 0, none⟩ = some (.slice none 0 0) := by rw [blk_cell hR2]; rfl
      have r1 : w2.cell? ⟨R, 1, none⟩ = some (.slice none 0 0) := by rw [blk_cell hR2]; rfl
      have r2 : w2.cell? ⟨R, 2, none⟩ = some (.slice none 0 0) := by rw [blk_cell hR2]; rfl
      have z0 : w2.frozen? ⟨R, 0, none⟩ = false := blk_frozen hR2 _
      have z1 : w2.frozen? ⟨R, 1, none⟩ = false := blk_frozen hR2 _
      have z2 : w2.frozen? ⟨R, 2, none⟩ = false := blk_frozen hR2 _
      have HI2 := Lib.hid hI2
      clear hI2 hO2 hR2
      go_wp2_with fail
      refine bodyPost_ret (v := .agg #[.slice avs r.structs.length cvs, .slice ave r.enums.length cve, .slice avr r.roots.length cvr]) (by simp [results, Try.results13, go_sem, *]) rfl ?_
      unfold AllPost
      rw [HR.out]
      exact ⟨_, _, _, rfl, (((HI2.out.rawIn.far hRO 0 _).far hRO 1 _).far hRO 2 _).kept (Nat.le_refl _) (fun q hq _ => ⟨rfl, (by have h9 : O < q := hq; omega : w.heap.size ≤ q)⟩), ((((ParPost.of_below H.out HB0.out).trans HI2.out.post).far hRw lP lg 0 _).far hRw lP lg 1 _).far hRw lP lg 2 _⟩

end Go.Proofs.Ytgoaiokpnifhfaa
