/-
  Layer 4: a struct's field.
-/
import Derived.Test.YtgoaiokpnifhfaaIdl4
import Derived.Test.YtgoaiokpnifhfaaTokens
namespace Go.Proofs.Ytgoaiokpnifhfaa
open Go.RowKit
set_option linter.unusedVariables false
set_option linter.unusedSimpArgs false

def fldL (f : RField) : List Value := [.string f.name, .int .i64 (f.pos : Int), .string f.ty.name, .int .i64 (f.ty.lists : Int), .int .i64 (f.ty.pos : Int), .int .i64 f.df.kind, .string f.df.text, .int .i64 (f.df.pos : Int)]
def fldCells (l : List RField) : List Value := l.flatMap fldL
theorem fldCells_snoc (l : List RField) (f : RField) : fldCells l ++ fldL f = fldCells (l ++ [f]) := by simp [fldCells]
theorem info_field : (Try.prog.info? 43).map (fun i => (i.zero, i.size, i.bytes)) = some (some (.agg #[.string ⟨#[]⟩, .int .i64 0, .string ⟨#[]⟩, .int .i64 0, .int .i64 0, .int .i64 0, .string ⟨#[]⟩, .int .i64 0]), 8, 88) := by kernel_rfl
def fldB (f : RField) : Obj := .cells (fldL f).toArray 43 (0, 0)

/-- where a struct's reading stands: its box, its name, its fields' row -/
structure RecI (w0 : World) (P g cap : Nat) (l : List Tok) (B O : Nat) (nm : ByteArray) (ps : Nat) (v : Value) (σ : PS) (acc : List RField) (w : World) : Prop where
  post : ParPost w0 P g cap l σ w
  box : w.heap[B]? = some (.cells #[.pointer (some ⟨P, 0, none⟩)] 59 (0, 0))
  out : w.heap[O]? = some (.cells #[.string nm, .int .i64 (ps : Int), v] 35 (0, 0))
  own : w.ownsRow (O + 1) 43 8 v acc.length (fldCells acc)
structure Places (w0 : World) (P g B O : Nat) : Prop where
  p : P < w0.heap.size
  g : g < w0.heap.size
  b : B ≠ P
  bo : B < O
  o : w0.heap.size ≤ O
theorem RecI.step {w0 : World} {P g cap : Nat} {l : List Tok} {B O : Nat} {nm : ByteArray} {ps : Nat} {v : Value} {σ τ : PS} {acc : List RField} {w w' : World} (h : RecI w0 P g cap l B O nm ps v σ acc w) (k : Places w0 P g B O) (h2 : ParPost w P g cap l τ w') : RecI w0 P g cap l B O nm ps v τ acc w' := by
  have := k.p; have := k.b; have := k.o; have := k.bo
  have hne : ∀ q, v.ownBlock = some q → q ≠ P := fun q hq => by have := (h.own.lt q hq).1; omega
  exact ⟨h.post.trans h2, blk_grown h.box h2.grown (by omega), blk_grown h.out h2.grown (by omega), ownsRow_at h.own (fun q hq => h2.grown.block q (h.own.lt q hq).2 (fun e => hne q hq (Option.some.inj e)))⟩
theorem RecI.new {w0 : World} {P g cap : Nat} {l : List Tok} {B O : Nat} {nm : ByteArray} {ps : Nat} {v : Value} {σ : PS} {acc : List RField} {w w' : World} (h : RecI w0 P g cap l B O nm ps v σ acc w) (hb : Below w.heap.size w w') : RecI w0 P g cap l B O nm ps v σ acc w' :=
  ⟨h.post.below hb, blk_below h.box hb (blk_lt h.box), blk_below h.out hb (blk_lt h.out), ownsRow_at h.own (fun q hq => hb.block q (h.own.lt q hq).2)⟩
theorem RecI.far {w0 : World} {P g cap : Nat} {l : List Tok} {B O : Nat} {nm : ByteArray} {ps : Nat} {v : Value} {σ : PS} {acc : List RField} {w : World} (h : RecI w0 P g cap l B O nm ps v σ acc w) (k : Places w0 P g B O) {F : Nat} (hF : O < F) (hv : ∀ q, v.ownBlock = some q → q ≠ F) (j : Nat) (x : Value) : RecI w0 P g cap l B O nm ps v σ acc (w.setCell ⟨F, j, none⟩ x) := by
  have := k.p; have := k.g; have := k.b; have := k.o; have := k.bo
  exact ⟨h.post.far (by omega) k.p k.g j x, blk_set_ne h.box _ (by simp; omega) _, blk_set_ne h.out _ (by simp; omega) _, ownsRow_at h.own (fun q hq => Below.heap_setCell _ _ _ _ (by simp; exact hv q hq))⟩
/-- and the field that is being read -/
structure FldI (w0 : World) (P g cap : Nat) (l : List Tok) (B O : Nat) (nm : ByteArray) (ps : Nat) (v : Value) (F : Nat) (f : RField) (σ : PS) (acc : List RField) (w : World) : Prop extends RecI w0 P g cap l B O nm ps v σ acc w where
  fld : w.heap[F]? = some (fldB f)
theorem FldI.step2 {w0 : World} {P g cap : Nat} {l : List Tok} {B O : Nat} {nm : ByteArray} {ps : Nat} {v : Value} {F : Nat} {f : RField} {σ τ : PS} {acc : List RField} {w w' : World} (h : FldI w0 P g cap l B O nm ps v F f σ acc w) (k : Places w0 P g B O) (hF : O < F) (h2 : ParPost w P g cap l τ w') : FldI w0 P g cap l B O nm ps v F f τ acc w' :=
  { toRecI := h.toRecI.step k h2, fld := blk_grown h.fld h2.grown (by have := k.p; have := k.b; have := k.o; have := k.bo; omega) }
theorem FldI.new2 {w0 : World} {P g cap : Nat} {l : List Tok} {B O : Nat} {nm : ByteArray} {ps : Nat} {v : Value} {F : Nat} {f : RField} {σ : PS} {acc : List RField} {w w' : World} (h : FldI w0 P g cap l B O nm ps v F f σ acc w) (hb : Below w.heap.size w w') : FldI w0 P g cap l B O nm ps v F f σ acc w' :=
  { toRecI := h.toRecI.new hb, fld := blk_below h.fld hb (blk_lt h.fld) }
theorem FldI.type {w0 : World} {P g cap : Nat} {l : List Tok} {B O : Nat} {nm : ByteArray} {ps : Nat} {v : Value} {F : Nat} {f : RField} {σ : PS} {acc : List RField} {w : World} (h : FldI w0 P g cap l B O nm ps v F f σ acc w) (k : Places w0 P g B O) (hF : O < F) (hv : ∀ q, v.ownBlock = some q → q ≠ F) (t : RTy) :
    FldI w0 P g cap l B O nm ps v F ⟨f.name, f.pos, t, f.df⟩ σ acc (((w.setCell ⟨F, 2, none⟩ (.string t.name)).setCell ⟨F, 3, none⟩ (.int .i64 (t.lists : Int))).setCell ⟨F, 4, none⟩ (.int .i64 (t.pos : Int))) :=
  { toRecI := ((h.toRecI.far k hF hv _ _).far k hF hv _ _).far k hF hv _ _, fld := by rw [blk_set (blk_set (blk_set h.fld _ _) _ _)]; rfl }
theorem FldI.def {w0 : World} {P g cap : Nat} {l : List Tok} {B O : Nat} {nm : ByteArray} {ps : Nat} {v : Value} {F : Nat} {f : RField} {σ : PS} {acc : List RField} {w : World} (h : FldI w0 P g cap l B O nm ps v F f σ acc w) (k : Places w0 P g B O) (hF : O < F) (hv : ∀ q, v.ownBlock = some q → q ≠ F) (t : Tok) :
    FldI w0 P g cap l B O nm ps v F ⟨f.name, f.pos, f.ty, t⟩ σ acc (((w.setCell ⟨F, 5, none⟩ (.int .i64 t.kind)).setCell ⟨F, 6, none⟩ (.string t.text)).setCell ⟨F, 7, none⟩ (.int .i64 (t.pos : Int))) :=
  { toRecI := ((h.toRecI.far k hF hv _ _).far k hF hv _ _).far k hF hv _ _, fld := by rw [blk_set (blk_set (blk_set h.fld _ _) _ _)]; rfl }


theorem ParPost.row {w0 w w2 : World} {P g cap : Nat} {l : List Tok} {τ : PS} {R : Option Nat} (h : ParPost w0 P g cap l τ w) (hg : w.grownBy w2 R) (hR : ∀ k, R = some k → w0.heap.size ≤ k) (hP : P < w0.heap.size) (hgl : g < w0.heap.size) : ParPost w0 P g cap l τ w2 := by
  have h1 : w0.grownBy w2 (some P) := ⟨hg.os.trans h.grown.os, hg.tape.trans h.grown.tape, hg.output.trans h.grown.output, Nat.le_trans h.grown.size hg.size, fun k hk hn => by
    rw [hg.block k (Nat.lt_of_lt_of_le hk h.grown.size) (fun e => by have := hR k e.symm; omega)]
    exact h.grown.block k hk hn⟩
  have hb : ∀ k, k < w0.heap.size → w2.heap[k]? = w.heap[k]? := fun k hk => hg.block k (Nat.lt_of_lt_of_le hk h.grown.size) (fun e => by have := hR k e.symm; omega)
  exact ⟨h1, { h.par with blk := by rw [hb P hP]; exact h.par.blk, toks := h.par.toks.kept (hb g hgl) }⟩
theorem news_list (w : World) (cs : List Value) (T : TypeId) : ∀ j u, cs[j]? = some u → (w.alloc (.cells cs.toArray T)).cell? ((⟨w.heap.size, 0, none⟩ : Addr).add j) = some u := by
  intro j u hu
  rw [Addr.add_lit, Nat.zero_add, blk_cell (blk_new w _)]
  simpa using hu
/-- a struct's row with one field more -/
theorem RecI.snoc {w0 : World} {P g cap : Nat} {l : List Tok} {B O : Nat} {nm : ByteArray} {ps : Nat} {v : Value} {σ : PS} {acc : List RField} {w w2 : World} (h : RecI w0 P g cap l B O nm ps v σ acc w) (k : Places w0 P g B O) (f : RField) (a : Addr) (c n : Nat) (hn : n = acc.length + 1) (hg : w.grownBy w2 v.ownBlock)
    (ho : w2.ownsRow (O + 1) 43 8 (.slice (some a) n c) n (fldCells acc ++ fldL f)) :
    RecI w0 P g cap l B O nm ps (.slice (some a) n c) σ (acc ++ [f]) (w2.setCell ⟨O, 2, none⟩ (.slice (some a) n c)) := by
  have := k.p; have := k.g; have := k.b; have := k.o; have := k.bo
  have hne : ∀ q, v.ownBlock = some q → O + 1 ≤ q := fun q hq => (h.own.lt q hq).1
  have hB := blk_lt h.box
  have hO := blk_lt h.out
  have hb : w2.heap[B]? = _ := (hg.block B hB (fun e => by have := hne B e.symm; omega)).trans h.box
  have ho2 : w2.heap[O]? = _ := (hg.block O hO (fun e => by have := hne O e.symm; omega)).trans h.out
  refine ⟨(h.post.row hg (fun q hq => by have := hne q hq; omega) k.p k.g).far (by omega) k.p k.g 2 _, blk_set_ne hb _ (by simp; omega) _, by rw [blk_set ho2]; rfl, ?_⟩
  rw [← fldCells_snoc, List.length_append, List.length_cons, List.length_nil, ← hn]
  refine ownsRow_at ho (fun q hq => Below.heap_setCell _ _ _ _ ?_)
  have := (ho.lt q hq).1
  simp; omega



set_option maxHeartbeats 4000000 in
set_option maxRecDepth 100000 in
theorem field_calls (w0 : World) (P g cap : Nat) (l : List Tok) (B O : Nat) (nm : ByteArray) (ps : Nat) (v : Value) (σ : PS) (acc : List RField) (w : World) (K : Places w0 P g B O) (hal : acc.length ≤ l.length) (h : RecI w0 P g cap l B O nm ps v σ acc w) :
    Calls Try.prog 45 #[.pointer (some ⟨B, 0, none⟩), .pointer (some ⟨O, 0, none⟩)] w fun e w' => e = .returned (.tuple #[]) ∧ ∃ v', RecI w0 P g cap l B O nm ps v' (fieldS l σ) (acc ++ [fieldV l σ]) w' := by
  obtain ⟨av, cv, rfl⟩ := own_len h.own
  obtain ⟨it, hit, hzt0, hzt1, hzt2⟩ := info_parts info_field
  have HK := Lib.hid K
  have H := Lib.hid h
  have b0 : w.cell? ⟨B, 0, none⟩ = some (.pointer (some ⟨P, 0, none⟩)) := by rw [blk_cell h.box]; rfl
  have hn := name_calls P g cap l σ true w h.post.par
  have hsm := h.post.par.small
  have kf := fun (w : World) (a b c : Value) => field_tok2 w a b c
  clear h K
  go_enter Try.func45, Try.ntmps45
  go_wp2_with fail
  refine hn.mono ?_
  rintro e w1 ⟨rfl, hp1⟩
  have HI1 := Lib.hid (H.out.step HK.out hp1)
  obtain ⟨n, hnv⟩ : ∃ n, n = nameV l true σ := ⟨_, rfl⟩
  rw [← hnv]
  have HN := Lib.hid hnv
  clear hn hp1 b0 hnv
  have b0 : w1.cell? ⟨B, 0, none⟩ = some (.pointer (some ⟨P, 0, none⟩)) := by rw [blk_cell HI1.out.box]; rfl
  have lB : B < w1.heap.size := blk_lt HI1.out.box
  simp only [tokA]
  go_wp2_with fail
  obtain ⟨F, hF⟩ : ∃ F, F = w1.heap.size + 1 := ⟨_, rfl⟩
  obtain ⟨W, hW⟩ : ∃ W, W = (w1.alloc (Obj.cells #[Value.int .i64 n.kind, Value.string n.text, Value.int .i64 (n.pos : Int)] 41)).alloc (Obj.cells #[Value.string n.text, Value.int .i64 (n.pos : Int), Value.string { data := #[] }, Value.int .i64 0, Value.int .i64 0, Value.int .i64 0, Value.string { data := #[] }, Value.int .i64 0] 43) := ⟨_, rfl⟩
  have hBW : Below w1.heap.size w1 W := by rw [hW]; exact (below1 _ _).alloc (by simp) _
  have hIF : FldI w0 P g cap l B O nm ps (.slice av acc.length cv) F ⟨n.text, n.pos, ⟨⟨#[]⟩, 0, 0⟩, tok0⟩ (nameS l true σ) acc W := by
    refine { toRecI := HI1.out.new hBW, fld := ?_ }
    rw [hW, hF]
    have := blk_new (w1.alloc (Obj.cells #[Value.int .i64 n.kind, Value.string n.text, Value.int .i64 (n.pos : Int)] 41)) (fldB ⟨n.text, n.pos, ⟨⟨#[]⟩, 0, 0⟩, tok0⟩)
    rw [World.size_alloc] at this
    exact this
  have hFv : ∀ q, (Value.slice av acc.length cv).ownBlock = some q → q ≠ F := fun q hq => by have := (HI1.out.own.lt q hq).2; omega
  have hOF : O < F := by have := blk_lt HI1.out.out; omega
  have HFV := Lib.hid hFv
  have HIF := Lib.hid hIF
  rw [← hW, ← hF]
  obtain ⟨M, hM⟩ : ∃ M, M = w1.heap.size := ⟨_, rfl⟩
  rw [← hM]
  clear hFv hIF hW hBW b0 lB hF hM
  -- the colon, the type
  refine (want_calls P g cap l _ cColon W HIF.out.post.par).mono ?_
  rintro e w2 ⟨rfl, hp2⟩
  have HI2 := Lib.hid (HIF.out.step2 HK.out hOF hp2)
  clear hp2
  have b0 : w2.cell? ⟨B, 0, none⟩ = some (.pointer (some ⟨P, 0, none⟩)) := by rw [blk_cell HI2.out.box]; rfl
  go_wp2_with fail
  refine (kind_calls P g cap l _ w2 HI2.out.post.par).mono ?_
  rintro e w3 ⟨rfl, hp3⟩
  have hI3 := HI2.out.step2 HK.out hOF hp3
  obtain ⟨ty, hty⟩ : ∃ ty, ty = kindV l (fieldT l σ) := ⟨_, rfl⟩
  have hty' : ty = kindV l (wantS l cColon (nameS l true σ)) := hty
  rw [← hty']
  have HTY := Lib.hid hty
  obtain ⟨fa, hfa⟩ : ∃ f : RField, f = ⟨n.text, n.pos, ⟨⟨#[]⟩, 0, 0⟩, tok0⟩ := ⟨_, rfl⟩
  rw [← hfa] at hI3
  clear b0 hp3 hty hty'
  have b0 : w3.cell? ⟨B, 0, none⟩ = some (.pointer (some ⟨P, 0, none⟩)) := by rw [blk_cell hI3.box]; rfl
  have f0 : w3.cell? ⟨F, 0, none⟩ = some (.string fa.name) := by rw [blk_cell hI3.fld]; rfl
  have f1 : w3.cell? ⟨F, 1, none⟩ = some (.int .i64 (fa.pos : Int)) := by rw [blk_cell hI3.fld]; rfl
  have f2 : w3.cell? ⟨F, 2, none⟩ = some (.string fa.ty.name) := by rw [blk_cell hI3.fld]; rfl
  have f3 : w3.cell? ⟨F, 3, none⟩ = some (.int .i64 (fa.ty.lists : Int)) := by rw [blk_cell hI3.fld]; rfl
  have f4 : w3.cell? ⟨F, 4, none⟩ = some (.int .i64 (fa.ty.pos : Int)) := by rw [blk_cell hI3.fld]; rfl
  have f5 : w3.cell? ⟨F, 5, none⟩ = some (.int .i64 fa.df.kind) := by rw [blk_cell hI3.fld]; rfl
  have f6 : w3.cell? ⟨F, 6, none⟩ = some (.string fa.df.text) := by rw [blk_cell hI3.fld]; rfl
  have f7 : w3.cell? ⟨F, 7, none⟩ = some (.int .i64 (fa.df.pos : Int)) := by rw [blk_cell hI3.fld]; rfl
  have e2 : w3.frozen? ⟨F, 2, none⟩ = false := blk_frozen hI3.fld _
  have e3 : w3.frozen? ⟨F, 3, none⟩ = false := blk_frozen hI3.fld _
  have e4 : w3.frozen? ⟨F, 4, none⟩ = false := blk_frozen hI3.fld _
  have e5 : w3.frozen? ⟨F, 5, none⟩ = false := blk_frozen hI3.fld _
  have e6 : w3.frozen? ⟨F, 6, none⟩ = false := blk_frozen hI3.fld _
  have e7 : w3.frozen? ⟨F, 7, none⟩ = false := blk_frozen hI3.fld _
  have hI4 := hI3.type HK.out hOF HFV.out ty
  rw [show (⟨fa.name, fa.pos, ty, fa.df⟩ : RField) = ⟨n.text, n.pos, ty, tok0⟩ by rw [hfa]] at hI4
  have HI4 := Lib.hid hI4
  clear hI3 hI4 hfa
  simp only [rtyA]
  go_wp2_with fail
  clear b0 f0 f1 f2 f3 f4 f5 f6 f7 e2 e3 e4 e5 e6 e7
  refine (sign_calls P g cap l _ cEq _ HI4.out.post.par).mono ?_
  rintro e w5 ⟨rfl, hp5⟩
  obtain ⟨υ, hυ⟩ : ∃ υ, υ = fieldE l σ := ⟨_, rfl⟩
  have hI5 := HI4.out.step2 HK.out hOF hp5
  have hE : kindS l (wantS l cColon (nameS l true σ)) = υ := hυ.symm
  rw [hE] at hI5
  rw [hE]
  clear hp5 hE
  have hdf : hasDef l σ = isT l 4 cEq υ := by rw [hυ]; rfl
  obtain ⟨fb, hfb⟩ : ∃ f : RField, f = ⟨n.text, n.pos, ty, tok0⟩ := ⟨_, rfl⟩
  rw [← hfb] at hI5
  cases ht : isT l 4 cEq υ with
  | false =>
    rw [ht] at hdf
    have HV := Lib.hid (show fieldV l σ = fb by rw [hfb, fieldV, ← HN.out, ← HTY.out, defV, if_neg (by rw [hdf]; simp)])
    have HS := Lib.hid (show fieldS l σ = wantS l cSemi υ by rw [fieldS, if_neg (by rw [hdf]; simp), ← hυ])
    have htk : takeS l 4 cEq υ = υ := by rw [takeS, if_neg (by rw [ht]; simp)]
    rw [htk] at hI5
    have HIX := Lib.hid hI5
    have b0 : w5.cell? ⟨B, 0, none⟩ = some (.pointer (some ⟨P, 0, none⟩)) := by rw [blk_cell hI5.box]; rfl
    clear hdf ht htk hI5 hυ hfb
    go_wp2_with fail
    refine (want_calls P g cap l _ cSemi _ HIX.out.post.par).mono ?_
    rintro e w7 ⟨rfl, hp7⟩
    have hI7 := HIX.out.step2 HK.out hOF hp7
    rw [← HS.out] at hI7
    clear b0 hp7
    have b0 : w7.cell? ⟨B, 0, none⟩ = some (.pointer (some ⟨P, 0, none⟩)) := by rw [blk_cell hI7.box]; rfl
    have f0 : w7.cell? ⟨F, 0, none⟩ = some (.string fb.name) := by rw [blk_cell hI7.fld]; rfl
    have f1 : w7.cell? ⟨F, 1, none⟩ = some (.int .i64 (fb.pos : Int)) := by rw [blk_cell hI7.fld]; rfl
    have f2 : w7.cell? ⟨F, 2, none⟩ = some (.string fb.ty.name) := by rw [blk_cell hI7.fld]; rfl
    have f3 : w7.cell? ⟨F, 3, none⟩ = some (.int .i64 (fb.ty.lists : Int)) := by rw [blk_cell hI7.fld]; rfl
    have f4 : w7.cell? ⟨F, 4, none⟩ = some (.int .i64 (fb.ty.pos : Int)) := by rw [blk_cell hI7.fld]; rfl
    have f5 : w7.cell? ⟨F, 5, none⟩ = some (.int .i64 fb.df.kind) := by rw [blk_cell hI7.fld]; rfl
    have f6 : w7.cell? ⟨F, 6, none⟩ = some (.string fb.df.text) := by rw [blk_cell hI7.fld]; rfl
    have f7 : w7.cell? ⟨F, 7, none⟩ = some (.int .i64 (fb.df.pos : Int)) := by rw [blk_cell hI7.fld]; rfl
    have e2 : w7.frozen? ⟨F, 2, none⟩ = false := blk_frozen hI7.fld _
    have e3 : w7.frozen? ⟨F, 3, none⟩ = false := blk_frozen hI7.fld _
    have e4 : w7.frozen? ⟨F, 4, none⟩ = false := blk_frozen hI7.fld _
    have e5 : w7.frozen? ⟨F, 5, none⟩ = false := blk_frozen hI7.fld _
    have e6 : w7.frozen? ⟨F, 6, none⟩ = false := blk_frozen hI7.fld _
    have e7 : w7.frozen? ⟨F, 7, none⟩ = false := blk_frozen hI7.fld _
    have c2 : w7.cell? ⟨O, 2, none⟩ = some (.slice av acc.length cv) := by rw [blk_cell hI7.out]; rfl
    have d2 : w7.frozen? ⟨O, 2, none⟩ = false := blk_frozen hI7.out _
    have hown := hI7.own
    have lO := blk_lt hI7.out
    have HI7 := Lib.hid hI7
    have hOne := hI7.own.lt
    have HON := Lib.hid hOne
    clear hI7 hOne
    go_wp2_with (at_builtin; refine wpList_append_lies _ rfl _ _ 33 rfl (O + 1) 43 it _ 8 88 Try.underlying33 hit hzt0 hzt1 hzt2 rfl (by decide) _ _ _ rfl (hown.alloc _) ⟨w7.heap.size, 0, none⟩ 1 1 (fldL fb) rfl rfl (news_list _ _ _) (by simp [Value.oneCell', fldL]) (by decide) (by unfold maxLen; omega) (by omega) (by simp; omega) _ rfl ?_)
    intro g2 cap2 w8 hown8 hgr8 hat8 hlt8
    have hO8 : w8.heap[O]? = _ := (hgr8.block O (by simp; omega) (fun e => by have := (HON.out O e.symm).1; omega)).trans (blk_alloc HI7.out.out _)
    have c3 : w8.cell? ⟨O, 2, none⟩ = some (.slice av acc.length cv) := by rw [blk_cell hO8]; rfl
    have d3 : w8.frozen? ⟨O, 2, none⟩ = false := blk_frozen hO8 _
    have HO8 := Lib.hid hown8
    have HG8 := Lib.hid hgr8
    clear b0 f0 f1 f2 f3 f4 f5 f6 f7 e2 e3 e4 e5 e6 e7
    clear hown8 hgr8 hat8 c2 d2 hO8 hown
    go_wp2_with fail
    refine bodyPost_end (v := .tuple #[]) (by simp [results, Try.results45, go_sem]) rfl ?_
    exact ⟨rfl, _, by rw [HV.out]; exact (HI7.out.toRecI.new (below1 _ _)).snoc HK.out fb _ _ _ rfl HG8.out HO8.out⟩
  | true =>
    rw [ht] at hdf
    have hkt := isT_kind ht
    have htk : takeS l 4 cEq υ = goS υ := by rw [takeS, if_pos ht]
    rw [htk] at hI5
    obtain ⟨d, hd⟩ : ∃ d, hereT l (goS υ).a = d := ⟨_, rfl⟩
    have hdv : defV l σ = d := by rw [defV, if_pos hdf, ← hυ]; exact hd
    have hhr := here_calls P g cap l (goS υ) w5 hI5.post.par
    rw [hd] at hhr
    have HVd := Lib.hid (show fieldV l σ = ⟨n.text, n.pos, ty, d⟩ by rw [fieldV, ← HN.out, ← HTY.out, hdv])
    have HSd := Lib.hid (show fieldS l σ = wantS l cSemi (defS l υ) by rw [fieldS, if_pos hdf, ← hυ])
    have HD := Lib.hid hd
    have HC0 := Lib.hid hkt.1
    have HE := Lib.hid hI5.post.par.ended
    have hmv := defS_moves HE.out (τ := υ) (by rw [hυ]; exact (fieldE_moves HE.out H.out.post.par.fine).fine) ht
    have HMV := Lib.hid hmv
    have hI5' := Lib.hid hI5
    have b0 : w5.cell? ⟨B, 0, none⟩ = some (.pointer (some ⟨P, 0, none⟩)) := by rw [blk_cell hI5.box]; rfl
    clear hdf ht htk hI5 hυ hkt hd hdv hmv
    go_wp2_with fail
    refine hhr.mono ?_
    rintro e w6 ⟨rfl, hB6⟩
    have hI6 := hI5'.out.new2 hB6
    clear b0 hhr hB6
    have b0 : w6.cell? ⟨B, 0, none⟩ = some (.pointer (some ⟨P, 0, none⟩)) := by rw [blk_cell hI6.box]; rfl
    have f0 : w6.cell? ⟨F, 0, none⟩ = some (.string fb.name) := by rw [blk_cell hI6.fld]; rfl
    have f1 : w6.cell? ⟨F, 1, none⟩ = some (.int .i64 (fb.pos : Int)) := by rw [blk_cell hI6.fld]; rfl
    have f2 : w6.cell? ⟨F, 2, none⟩ = some (.string fb.ty.name) := by rw [blk_cell hI6.fld]; rfl
    have f3 : w6.cell? ⟨F, 3, none⟩ = some (.int .i64 (fb.ty.lists : Int)) := by rw [blk_cell hI6.fld]; rfl
    have f4 : w6.cell? ⟨F, 4, none⟩ = some (.int .i64 (fb.ty.pos : Int)) := by rw [blk_cell hI6.fld]; rfl
    have f5 : w6.cell? ⟨F, 5, none⟩ = some (.int .i64 fb.df.kind) := by rw [blk_cell hI6.fld]; rfl
    have f6 : w6.cell? ⟨F, 6, none⟩ = some (.string fb.df.text) := by rw [blk_cell hI6.fld]; rfl
    have f7 : w6.cell? ⟨F, 7, none⟩ = some (.int .i64 (fb.df.pos : Int)) := by rw [blk_cell hI6.fld]; rfl
    have e2 : w6.frozen? ⟨F, 2, none⟩ = false := blk_frozen hI6.fld _
    have e3 : w6.frozen? ⟨F, 3, none⟩ = false := blk_frozen hI6.fld _
    have e4 : w6.frozen? ⟨F, 4, none⟩ = false := blk_frozen hI6.fld _
    have e5 : w6.frozen? ⟨F, 5, none⟩ = false := blk_frozen hI6.fld _
    have e6 : w6.frozen? ⟨F, 6, none⟩ = false := blk_frozen hI6.fld _
    have e7 : w6.frozen? ⟨F, 7, none⟩ = false := blk_frozen hI6.fld _
    have hI6d := hI6.def HK.out hOF HFV.out d
    rw [show (⟨fb.name, fb.pos, fb.ty, d⟩ : RField) = ⟨n.text, n.pos, ty, d⟩ by rw [hfb]] at hI6d
    have HI6 := Lib.hid hI6d
    have HP6 := Lib.hid hI6.post.par.blk
    clear hI6 hI6d hfb
    simp only [tokA]
    obtain ⟨fz, hfz⟩ : ∃ f : RField, f = ⟨n.text, n.pos, ty, d⟩ := ⟨_, rfl⟩
    have HV := Lib.hid (HVd.out.trans hfz.symm)
    have HI7 := HI6
    rw [← hfz] at HI7
    have b6 := HI7.out.box
    clear HVd HI6 hfz
    by_cases hk : d.kind = 1 ∨ d.kind = 2
    · have HDS := Lib.hid (show defS l υ = goS (goS υ) by rw [defS, HD.out, if_pos hk])
      obtain ⟨X, hX⟩ : ∃ X, X = goS υ := ⟨_, rfl⟩
      have hbP := HP6.out
      rw [← hX] at HDS HI7 hbP
      have p1 : w6.cell? ⟨P, 1, none⟩ = some (.int .i64 (X.a : Int)) := by rw [blk_cell hbP]; rfl
      have y1 : w6.frozen? ⟨P, 1, none⟩ = false := blk_frozen hbP _
      have hne : B ≠ P := HK.out.b
      have hne2 : P ≠ F := by have := HK.out.p; have := HK.out.o; omega
      have hne3 : B ≠ F := by have := HK.out.bo; omega
      have ha1 : (X.a : Int) ≤ 100000 := by have := HI7.out.post.par.fine.1; omega
      have hfx : Fine l (goS X) := by rw [← HDS.out]; exact HMV.out.fine
      have hI9 := HI7.out.step2 HK.out hOF (par_go HI7.out.post.par hfx)
      rw [← HDS.out] at hI9
      have HS := HSd
      have HIX := Lib.hid hI9
      clear hX b6 hbP hfx hI9 HP6
      rcases hk with hk | hk
      · have hk1 : (d.kind != 1) = false := by rw [hk]; rfl
        clear hk
        go_wp2_with fail
        clear b0 f0 f1 f2 f3 f4 f5 f6 f7 e2 e3 e4 e5 e6 e7
        clear p1 y1
        have b0 : True := trivial
        refine (want_calls P g cap l _ cSemi _ HIX.out.post.par).mono ?_
        rintro e w7 ⟨rfl, hp7⟩
        have hI7 := HIX.out.step2 HK.out hOF hp7
        rw [← HS.out] at hI7
        clear b0 hp7
        have b0 : w7.cell? ⟨B, 0, none⟩ = some (.pointer (some ⟨P, 0, none⟩)) := by rw [blk_cell hI7.box]; rfl
        have f0 : w7.cell? ⟨F, 0, none⟩ = some (.string fz.name) := by rw [blk_cell hI7.fld]; rfl
        have f1 : w7.cell? ⟨F, 1, none⟩ = some (.int .i64 (fz.pos : Int)) := by rw [blk_cell hI7.fld]; rfl
        have f2 : w7.cell? ⟨F, 2, none⟩ = some (.string fz.ty.name) := by rw [blk_cell hI7.fld]; rfl
        have f3 : w7.cell? ⟨F, 3, none⟩ = some (.int .i64 (fz.ty.lists : Int)) := by rw [blk_cell hI7.fld]; rfl
        have f4 : w7.cell? ⟨F, 4, none⟩ = some (.int .i64 (fz.ty.pos : Int)) := by rw [blk_cell hI7.fld]; rfl
        have f5 : w7.cell? ⟨F, 5, none⟩ = some (.int .i64 fz.df.kind) := by rw [blk_cell hI7.fld]; rfl
        have f6 : w7.cell? ⟨F, 6, none⟩ = some (.string fz.df.text) := by rw [blk_cell hI7.fld]; rfl
        have f7 : w7.cell? ⟨F, 7, none⟩ = some (.int .i64 (fz.df.pos : Int)) := by rw [blk_cell hI7.fld]; rfl
        have e2 : w7.frozen? ⟨F, 2, none⟩ = false := blk_frozen hI7.fld _
        have e3 : w7.frozen? ⟨F, 3, none⟩ = false := blk_frozen hI7.fld _
        have e4 : w7.frozen? ⟨F, 4, none⟩ = false := blk_frozen hI7.fld _
        have e5 : w7.frozen? ⟨F, 5, none⟩ = false := blk_frozen hI7.fld _
        have e6 : w7.frozen? ⟨F, 6, none⟩ = false := blk_frozen hI7.fld _
        have e7 : w7.frozen? ⟨F, 7, none⟩ = false := blk_frozen hI7.fld _
        have c2 : w7.cell? ⟨O, 2, none⟩ = some (.slice av acc.length cv) := by rw [blk_cell hI7.out]; rfl
        have d2 : w7.frozen? ⟨O, 2, none⟩ = false := blk_frozen hI7.out _
        have hown := hI7.own
        have lO := blk_lt hI7.out
        have HI7 := Lib.hid hI7
        have hOne := hI7.own.lt
        have HON := Lib.hid hOne
        clear hI7 hOne
        go_wp2_with (at_builtin; refine wpList_append_lies _ rfl _ _ 33 rfl (O + 1) 43 it _ 8 88 Try.underlying33 hit hzt0 hzt1 hzt2 rfl (by decide) _ _ _ rfl (hown.alloc _) ⟨w7.heap.size, 0, none⟩ 1 1 (fldL fz) rfl rfl (news_list _ _ _) (by simp [Value.oneCell', fldL]) (by decide) (by unfold maxLen; omega) (by omega) (by simp; omega) _ rfl ?_)
        intro g2 cap2 w8 hown8 hgr8 hat8 hlt8
        have hO8 : w8.heap[O]? = _ := (hgr8.block O (by simp; omega) (fun e => by have := (HON.out O e.symm).1; omega)).trans (blk_alloc HI7.out.out _)
        have c3 : w8.cell? ⟨O, 2, none⟩ = some (.slice av acc.length cv) := by rw [blk_cell hO8]; rfl
        have d3 : w8.frozen? ⟨O, 2, none⟩ = false := blk_frozen hO8 _
        have HO8 := Lib.hid hown8
        have HG8 := Lib.hid hgr8
        clear b0 f0 f1 f2 f3 f4 f5 f6 f7 e2 e3 e4 e5 e6 e7
        clear hown8 hgr8 hat8 c2 d2 hO8 hown
        go_wp2_with fail
        refine bodyPost_end (v := .tuple #[]) (by simp [results, Try.results45, go_sem]) rfl ?_
        exact ⟨rfl, _, by rw [HV.out]; exact (HI7.out.toRecI.new (below1 _ _)).snoc HK.out fz _ _ _ rfl HG8.out HO8.out⟩
      · have hk1 : (d.kind != 1) = true := by rw [hk]; rfl
        have hk2 : (d.kind != 2) = false := by rw [hk]; rfl
        clear hk
        go_wp2_with fail
        clear b0 f0 f1 f2 f3 f4 f5 f6 f7 e2 e3 e4 e5 e6 e7
        clear p1 y1
        have b0 : True := trivial
        refine (want_calls P g cap l _ cSemi _ HIX.out.post.par).mono ?_
        rintro e w7 ⟨rfl, hp7⟩
        have hI7 := HIX.out.step2 HK.out hOF hp7
        rw [← HS.out] at hI7
        clear b0 hp7
        have b0 : w7.cell? ⟨B, 0, none⟩ = some (.pointer (some ⟨P, 0, none⟩)) := by rw [blk_cell hI7.box]; rfl
        have f0 : w7.cell? ⟨F, 0, none⟩ = some (.string fz.name) := by rw [blk_cell hI7.fld]; rfl
        have f1 : w7.cell? ⟨F, 1, none⟩ = some (.int .i64 (fz.pos : Int)) := by rw [blk_cell hI7.fld]; rfl
        have f2 : w7.cell? ⟨F, 2, none⟩ = some (.string fz.ty.name) := by rw [blk_cell hI7.fld]; rfl
        have f3 : w7.cell? ⟨F, 3, none⟩ = some (.int .i64 (fz.ty.lists : Int)) := by rw [blk_cell hI7.fld]; rfl
        have f4 : w7.cell? ⟨F, 4, none⟩ = some (.int .i64 (fz.ty.pos : Int)) := by rw [blk_cell hI7.fld]; rfl
        have f5 : w7.cell? ⟨F, 5, none⟩ = some (.int .i64 fz.df.kind) := by rw [blk_cell hI7.fld]; rfl
        have f6 : w7.cell? ⟨F, 6, none⟩ = some (.string fz.df.text) := by rw [blk_cell hI7.fld]; rfl
        have f7 : w7.cell? ⟨F, 7, none⟩ = some (.int .i64 (fz.df.pos : Int)) := by rw [blk_cell hI7.fld]; rfl
        have e2 : w7.frozen? ⟨F, 2, none⟩ = false := blk_frozen hI7.fld _
        have e3 : w7.frozen? ⟨F, 3, none⟩ = false := blk_frozen hI7.fld _
        have e4 : w7.frozen? ⟨F, 4, none⟩ = false := blk_frozen hI7.fld _
        have e5 : w7.frozen? ⟨F, 5, none⟩ = false := blk_frozen hI7.fld _
        have e6 : w7.frozen? ⟨F, 6, none⟩ = false := blk_frozen hI7.fld _
        have e7 : w7.frozen? ⟨F, 7, none⟩ = false := blk_frozen hI7.fld _
        have c2 : w7.cell? ⟨O, 2, none⟩ = some (.slice av acc.length cv) := by rw [blk_cell hI7.out]; rfl
        have d2 : w7.frozen? ⟨O, 2, none⟩ = false := blk_frozen hI7.out _
        have hown := hI7.own
        have lO := blk_lt hI7.out
        have HI7 := Lib.hid hI7
        have hOne := hI7.own.lt
        have HON := Lib.hid hOne
        clear hI7 hOne
        go_wp2_with (at_builtin; refine wpList_append_lies _ rfl _ _ 33 rfl (O + 1) 43 it _ 8 88 Try.underlying33 hit hzt0 hzt1 hzt2 rfl (by decide) _ _ _ rfl (hown.alloc _) ⟨w7.heap.size, 0, none⟩ 1 1 (fldL fz) rfl rfl (news_list _ _ _) (by simp [Value.oneCell', fldL]) (by decide) (by unfold maxLen; omega) (by omega) (by simp; omega) _ rfl ?_)
        intro g2 cap2 w8 hown8 hgr8 hat8 hlt8
        have hO8 : w8.heap[O]? = _ := (hgr8.block O (by simp; omega) (fun e => by have := (HON.out O e.symm).1; omega)).trans (blk_alloc HI7.out.out _)
        have c3 : w8.cell? ⟨O, 2, none⟩ = some (.slice av acc.length cv) := by rw [blk_cell hO8]; rfl
        have d3 : w8.frozen? ⟨O, 2, none⟩ = false := blk_frozen hO8 _
        have HO8 := Lib.hid hown8
        have HG8 := Lib.hid hgr8
        clear b0 f0 f1 f2 f3 f4 f5 f6 f7 e2 e3 e4 e5 e6 e7
        clear hown8 hgr8 hat8 c2 d2 hO8 hown
        go_wp2_with fail
        refine bodyPost_end (v := .tuple #[]) (by simp [results, Try.results45, go_sem]) rfl ?_
        exact ⟨rfl, _, by rw [HV.out]; exact (HI7.out.toRecI.new (below1 _ _)).snoc HK.out fz _ _ _ rfl HG8.out HO8.out⟩
    · have HDS := Lib.hid (show defS l υ = goS (failS l 11 (goS υ)) by rw [defS, HD.out, if_neg hk])
      have hk1 : (d.kind != 1) = true := by rw [bne_iff_ne]; exact fun e => hk (.inl e)
      have hk2 : (d.kind != 2) = true := by rw [bne_iff_ne]; exact fun e => hk (.inr e)
      clear hk b6
      go_wp2_with fail
      refine (fail_calls P g cap l _ 11 (by decide) _ HI7.out.post.par).mono ?_
      rintro e w8 ⟨rfl, hp8⟩
      have HI8 := Lib.hid (HI7.out.step2 HK.out hOF hp8)
      obtain ⟨X, hX⟩ : ∃ X, X = failS l 11 (goS υ) := ⟨_, rfl⟩
      rw [← hX] at HDS HI8
      clear hp8 HI7 hX
      clear b0 f0 f1 f2 f3 f4 f5 f6 f7 e2 e3 e4 e5 e6 e7
      have hbP := HI8.out.post.par.blk
      have p1 : w8.cell? ⟨P, 1, none⟩ = some (.int .i64 (X.a : Int)) := by rw [blk_cell hbP]; rfl
      have y1 : w8.frozen? ⟨P, 1, none⟩ = false := blk_frozen hbP _
      have b0 : w8.cell? ⟨B, 0, none⟩ = some (.pointer (some ⟨P, 0, none⟩)) := by rw [blk_cell HI8.out.box]; rfl
      have hne : B ≠ P := HK.out.b
      have ha1 : (X.a : Int) ≤ 100000 := by have := HI8.out.post.par.fine.1; omega
      have hfx : Fine l (goS X) := by rw [← HDS.out]; exact HMV.out.fine
      have hI9 := HI8.out.step2 HK.out hOF (par_go HI8.out.post.par hfx)
      rw [← HDS.out] at hI9
      have HS := HSd
      have HIX := Lib.hid hI9
      clear hbP hI9 hfx
      go_wp2_with fail
      clear p1 y1
      refine (want_calls P g cap l _ cSemi _ HIX.out.post.par).mono ?_
      rintro e w7 ⟨rfl, hp7⟩
      have hI7 := HIX.out.step2 HK.out hOF hp7
      rw [← HS.out] at hI7
      clear b0 hp7
      have b0 : w7.cell? ⟨B, 0, none⟩ = some (.pointer (some ⟨P, 0, none⟩)) := by rw [blk_cell hI7.box]; rfl
      have f0 : w7.cell? ⟨F, 0, none⟩ = some (.string fz.name) := by rw [blk_cell hI7.fld]; rfl
      have f1 : w7.cell? ⟨F, 1, none⟩ = some (.int .i64 (fz.pos : Int)) := by rw [blk_cell hI7.fld]; rfl
      have f2 : w7.cell? ⟨F, 2, none⟩ = some (.string fz.ty.name) := by rw [blk_cell hI7.fld]; rfl
      have f3 : w7.cell? ⟨F, 3, none⟩ = some (.int .i64 (fz.ty.lists : Int)) := by rw [blk_cell hI7.fld]; rfl
      have f4 : w7.cell? ⟨F, 4, none⟩ = some (.int .i64 (fz.ty.pos : Int)) := by rw [blk_cell hI7.fld]; rfl
      have f5 : w7.cell? ⟨F, 5, none⟩ = some (.int .i64 fz.df.kind) := by rw [blk_cell hI7.fld]; rfl
      have f6 : w7.cell? ⟨F, 6, none⟩ = some (.string fz.df.text) := by rw [blk_cell hI7.fld]; rfl
      have f7 : w7.cell? ⟨F, 7, none⟩ = some (.int .i64 (fz.df.pos : Int)) := by rw [blk_cell hI7.fld]; rfl
      have e2 : w7.frozen? ⟨F, 2, none⟩ = false := blk_frozen hI7.fld _
      have e3 : w7.frozen? ⟨F, 3, none⟩ = false := blk_frozen hI7.fld _
      have e4 : w7.frozen? ⟨F, 4, none⟩ = false := blk_frozen hI7.fld _
      have e5 : w7.frozen? ⟨F, 5, none⟩ = false := blk_frozen hI7.fld _
      have e6 : w7.frozen? ⟨F, 6, none⟩ = false := blk_frozen hI7.fld _
      have e7 : w7.frozen? ⟨F, 7, none⟩ = false := blk_frozen hI7.fld _
      have c2 : w7.cell? ⟨O, 2, none⟩ = some (.slice av acc.length cv) := by rw [blk_cell hI7.out]; rfl
      have d2 : w7.frozen? ⟨O, 2, none⟩ = false := blk_frozen hI7.out _
      have hown := hI7.own
      have lO := blk_lt hI7.out
      have HI7 := Lib.hid hI7
      have hOne := hI7.own.lt
      have HON := Lib.hid hOne
      clear hI7 hOne
      go_wp2_with (at_builtin; refine wpList_append_lies _ rfl _ _ 33 rfl (O + 1) 43 it _ 8 88 Try.underlying33 hit hzt0 hzt1 hzt2 rfl (by decide) _ _ _ rfl (hown.alloc _) ⟨w7.heap.size, 0, none⟩ 1 1 (fldL fz) rfl rfl (news_list _ _ _) (by simp [Value.oneCell', fldL]) (by decide) (by unfold maxLen; omega) (by omega) (by simp; omega) _ rfl ?_)
      intro g2 cap2 w8 hown8 hgr8 hat8 hlt8
      have hO8 : w8.heap[O]? = _ := (hgr8.block O (by simp; omega) (fun e => by have := (HON.out O e.symm).1; omega)).trans (blk_alloc HI7.out.out _)
      have c3 : w8.cell? ⟨O, 2, none⟩ = some (.slice av acc.length cv) := by rw [blk_cell hO8]; rfl
      have d3 : w8.frozen? ⟨O, 2, none⟩ = false := blk_frozen hO8 _
      have HO8 := Lib.hid hown8
      have HG8 := Lib.hid hgr8
      clear b0 f0 f1 f2 f3 f4 f5 f6 f7 e2 e3 e4 e5 e6 e7
      clear hown8 hgr8 hat8 c2 d2 hO8 hown
      go_wp2_with fail
      refine bodyPost_end (v := .tuple #[]) (by simp [results, Try.results45, go_sem]) rfl ?_
      exact ⟨rfl, _, by rw [HV.out]; exact (HI7.out.toRecI.new (below1 _ _)).snoc HK.out fz _ _ _ rfl HG8.out HO8.out⟩

end Go.Proofs.Ytgoaiokpnifhfaa
