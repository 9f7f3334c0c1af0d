/-
  Layer 4: a schema as it is written, in memory.
-/
import Derived.Test.YtgoaiokpnifhfaaIdl7
namespace Go.Proofs.Ytgoaiokpnifhfaa
open Go.RowKit
set_option linter.unusedVariables false
set_option linter.unusedSimpArgs false

/-- a slice in memory, its block of a kind -/
def SliceAt (w : World) (A : Nat → Prop) (v : Value) (n : Nat) (cs : List Value) : Prop :=
  ∃ a c, v = .slice a n c ∧ n ≤ c ∧ (0 < n → ∃ q, a = some ⟨q, 0, none⟩ ∧ A q ∧ q < w.heap.size ∧ ∀ j u, cs[j]? = some u → w.cell? ⟨q, j, none⟩ = some u)
theorem SliceAt.kept {w w' : World} {A A' : Nat → Prop} {v : Value} {n : Nat} {cs : List Value} (h : SliceAt w A v n cs) (hs : w.heap.size ≤ w'.heap.size) (hk : ∀ q, A q → q < w.heap.size → w'.heap[q]? = w.heap[q]? ∧ A' q) : SliceAt w' A' v n cs := by
  obtain ⟨a, c, e, hcap, h⟩ := h
  refine ⟨a, c, e, hcap, fun h0 => ?_⟩
  obtain ⟨q, ea, ha, hq, hc⟩ := h h0
  have := hk q ha hq
  exact ⟨q, ea, this.2, by omega, fun j u hu => (World.cell?_of_block (w := w) (a := ⟨q, j, none⟩) this.1).trans (hc j u hu)⟩
theorem SliceAt.of_own {w : World} {A : Nat → Prop} {base : Nat} {E : TypeId} {sz : Nat} {v : Value} {n : Nat} {cs : List Value} (h : w.ownsRow base E sz v n cs) (hA : ∀ q, v.ownBlock = some q → base ≤ q → q < w.heap.size → A q) : SliceAt w A v n cs := by
  obtain ⟨a, c, rfl⟩ := own_len h
  have hcap : n ≤ c := by
    rcases h.2 with ⟨_, h0⟩ | ⟨g, cap, cur, hv, _, _, hnc, _⟩
    · omega
    · cases hv; exact hnc
  refine ⟨a, c, rfl, hcap, fun h0 => ?_⟩
  obtain ⟨q, c', e, _, _⟩ := h.form h0
  cases e
  have hl := h.lt q rfl
  refine ⟨q, rfl, hA q rfl hl.1 hl.2, hl.2, fun j u hu => ?_⟩
  have := h.cells (g := q) rfl j u hu
  simpa [Addr.add_lit] using this

def hdCells {β : Type} (nm : β → ByteArray) (ps : β → Nat) : List β → List Value → List Value
  | b :: bs, v :: vs => .string (nm b) :: .int .i64 (ps b : Int) :: v :: hdCells nm ps bs vs
  | _, _ => []
def InnersAt {β : Type} (w : World) (A : Nat → Prop) (n : β → Nat) (cs : β → List Value) : List β → List Value → Prop
  | [], [] => True
  | b :: bs, v :: vs => SliceAt w A v (n b) (cs b) ∧ InnersAt w A n cs bs vs
  | _, _ => False
theorem InnersAt.kept {β : Type} {w w' : World} {A A' : Nat → Prop} {n : β → Nat} {cs : β → List Value} (hs : w.heap.size ≤ w'.heap.size) (hk : ∀ q, A q → q < w.heap.size → w'.heap[q]? = w.heap[q]? ∧ A' q) : ∀ (bs : List β) (vs : List Value), InnersAt w A n cs bs vs → InnersAt w' A' n cs bs vs
  | [], [], _ => trivial
  | b :: bs, v :: vs, h => ⟨h.1.kept hs hk, InnersAt.kept hs hk bs vs h.2⟩
  | [], _ :: _, h => h.elim
  | _ :: _, [], h => h.elim
theorem InnersAt.len {β : Type} {w : World} {A : Nat → Prop} {n : β → Nat} {cs : β → List Value} : ∀ (bs : List β) (vs : List Value), InnersAt w A n cs bs vs → bs.length = vs.length
  | [], [], _ => rfl
  | b :: bs, v :: vs, h => by simp [InnersAt.len bs vs h.2]
  | [], _ :: _, h => h.elim
  | _ :: _, [], h => h.elim
theorem InnersAt.snoc {β : Type} {w : World} {A : Nat → Prop} {n : β → Nat} {cs : β → List Value} {b : β} {v : Value} (hb : SliceAt w A v (n b) (cs b)) : ∀ (bs : List β) (vs : List Value), InnersAt w A n cs bs vs → InnersAt w A n cs (bs ++ [b]) (vs ++ [v])
  | [], [], _ => ⟨hb, trivial⟩
  | c :: bs, x :: vs, h => ⟨h.1, InnersAt.snoc hb bs vs h.2⟩
  | [], _ :: _, h => h.elim
  | _ :: _, [], h => h.elim
theorem hdCells_snoc {β : Type} (nm : β → ByteArray) (ps : β → Nat) (b : β) (v : Value) : ∀ (bs : List β) (vs : List Value), bs.length = vs.length → hdCells nm ps bs vs ++ [.string (nm b), .int .i64 (ps b : Int), v] = hdCells nm ps (bs ++ [b]) (vs ++ [v])
  | [], [], _ => rfl
  | c :: bs, x :: vs, h => by
    have := hdCells_snoc nm ps b v bs vs (by simpa using h)
    simp only [hdCells, List.cons_append, this]
  | [], _ :: _, h => by simp at h
  | _ :: _, [], h => by simp at h

def fldN (r : RRec) : Nat := r.fields.length
def fldC (r : RRec) : List Value := fldCells r.fields
def itmN (r : RChoice) : Nat := r.names.length
def itmC (r : RChoice) : List Value := tokCells r.names
def recsL (rs : List RRec) (vl : List Value) : List Value := hdCells RRec.name RRec.pos rs vl
def chosL (rs : List RChoice) (vl : List Value) : List Value := hdCells RChoice.name RChoice.pos rs vl

/-- blocks that lie apart from the growing rows -/
def ApartOf (O : Nat) (vs ve vr : Value) (q : Nat) : Prop := O < q ∧ vs.ownBlock ≠ some q ∧ ve.ownBlock ≠ some q ∧ vr.ownBlock ≠ some q

/-- where the whole text's reading stands -/
structure AllI (w0 : World) (P g cap : Nat) (l : List Tok) (O : Nat) (vs ve vr : Value) (sl el : List Value) (σ : PS) (r : RawD) (w : World) : Prop where
  post : ParPost w0 P g cap l σ w
  out : w.heap[O]? = some (.cells #[vs, ve, vr] 27 (0, 0))
  so : w.ownsRow (O + 1) 35 3 vs r.structs.length (recsL r.structs sl)
  eo : w.ownsRow (O + 1) 97 3 ve r.enums.length (chosL r.enums el)
  ro : w.ownsRow (O + 1) 41 3 vr r.roots.length (tokCells r.roots)
  si : InnersAt w (ApartOf O vs ve vr) fldN fldC r.structs sl
  ei : InnersAt w (ApartOf O vs ve vr) itmN itmC r.enums el
  d1 : ∀ q, vs.ownBlock = some q → ve.ownBlock ≠ some q ∧ vr.ownBlock ≠ some q
  d2 : ∀ q, ve.ownBlock = some q → vr.ownBlock ≠ some q
theorem AllI.step {w0 : World} {P g cap : Nat} {l : List Tok} {O : Nat} {vs ve vr : Value} {sl el : List Value} {σ τ : PS} {r : RawD} {w w' : World} (h : AllI w0 P g cap l O vs ve vr sl el σ r w) (hP : P < w0.heap.size) (hO : w0.heap.size ≤ O) (h2 : ParPost w P g cap l τ w') : AllI w0 P g cap l O vs ve vr sl el τ r w' := by
  have hk : ∀ q, O < q → q < w.heap.size → w'.heap[q]? = w.heap[q]? := fun q h3 h4 => h2.grown.block q h4 (fun e => by have e2 := Option.some.inj e; omega)
  have hsz := h2.grown.size
  exact ⟨h.post.trans h2, blk_grown h.out h2.grown (by omega), ownsRow_at h.so (fun q hq => hk q (by have := (h.so.lt q hq).1; omega) (h.so.lt q hq).2), ownsRow_at h.eo (fun q hq => hk q (by have := (h.eo.lt q hq).1; omega) (h.eo.lt q hq).2), ownsRow_at h.ro (fun q hq => hk q (by have := (h.ro.lt q hq).1; omega) (h.ro.lt q hq).2),
    h.si.kept hsz (fun q hq h4 => ⟨hk q hq.1 h4, hq⟩), h.ei.kept hsz (fun q hq h4 => ⟨hk q hq.1 h4, hq⟩), h.d1, h.d2⟩

/-- what an append to one of the rows does -/
structure Grows (O : Nat) (v v' : Value) (w w2 : World) : Prop where
  grown : w.grownBy w2 v.ownBlock
  at_ : ∀ q, v'.ownBlock = some q → v.ownBlock = some q ∨ q = w.heap.size
theorem AllI.apart {w0 : World} {P g cap : Nat} {l : List Tok} {O : Nat} {vs ve vr : Value} {sl el : List Value} {σ : PS} {r : RawD} {w : World} (h : AllI w0 P g cap l O vs ve vr sl el σ r w) : True := trivial

theorem AllI.structs {w0 : World} {P g cap : Nat} {l : List Tok} {O : Nat} {vs ve vr v' : Value} {sl el : List Value} {σ : PS} {r : RawD} {w w2 : World} (h : AllI w0 P g cap l O vs ve vr sl el σ r w) (hP : P < w0.heap.size) (hg : g < w0.heap.size) (hO : w0.heap.size ≤ O)
    (x : RRec) (vx : Value) (hx : SliceAt w (ApartOf O vs ve vr) vx (fldN x) (fldC x)) (G : Grows O vs v' w w2) (ho : w2.ownsRow (O + 1) 35 3 v' (r.structs.length + 1) (recsL r.structs sl ++ [.string x.name, .int .i64 (x.pos : Int), vx])) :
    AllI w0 P g cap l O v' ve vr (sl ++ [vx]) el σ ⟨r.structs ++ [x], r.enums, r.roots⟩ (w2.setCell ⟨O, 0, none⟩ v') := by
  have hsz := G.grown.size
  have hk : ∀ q, O < q → vs.ownBlock ≠ some q → q < w.heap.size → (w2.setCell ⟨O, 0, none⟩ v').heap[q]? = w.heap[q]? := fun q h3 h5 h4 => by
    rw [Below.heap_setCell _ _ _ _ (by simp; omega)]; exact G.grown.block q h4 (fun e => h5 e.symm)
  have hA : ∀ q, ApartOf O vs ve vr q → q < w.heap.size → (w2.setCell ⟨O, 0, none⟩ v').heap[q]? = w.heap[q]? ∧ ApartOf O v' ve vr q := fun q hq h4 => ⟨hk q hq.1 hq.2.1 h4, hq.1, fun e => by
    rcases G.at_ q e with e2 | e2
    · exact hq.2.1 e2
    · omega, hq.2.2.1, hq.2.2.2⟩
  have hsz2 : w.heap.size ≤ (w2.setCell ⟨O, 0, none⟩ v').heap.size := by rw [World.size_setCell]; exact hsz
  have hvO : ∀ q, vs.ownBlock = some q → O < q := fun q e => by have := (h.so.lt q e).1; omega
  have hlO := blk_lt h.out
  have ho2 : w2.heap[O]? = _ := (G.grown.block O hlO (fun e => by have := hvO O e.symm; omega)).trans h.out
  refine ⟨(h.post.row G.grown (fun q e => by have := hvO q e; omega) hP hg).far hO hP hg 0 v', by rw [blk_set ho2]; rfl, ?_, ?_, ?_, ?_, ?_, ?_, h.d2⟩
  · have hl : r.structs.length = sl.length := InnersAt.len _ _ h.si
    rw [show (r.structs ++ [x]).length = r.structs.length + 1 by simp]
    rw [show recsL (r.structs ++ [x]) (sl ++ [vx]) = recsL r.structs sl ++ [.string x.name, .int .i64 (x.pos : Int), vx] from (hdCells_snoc _ _ x vx _ _ hl).symm]
    exact ownsRow_at ho (fun q hq => Below.heap_setCell _ _ _ _ (by have := (ho.lt q hq).1; simp; omega))
  · exact ownsRow_at h.eo (fun q hq => hk q (by have := (h.eo.lt q hq).1; omega) (fun e => (h.d1 q e).1 hq) (h.eo.lt q hq).2)
  · exact ownsRow_at h.ro (fun q hq => hk q (by have := (h.ro.lt q hq).1; omega) (fun e => (h.d1 q e).2 hq) (h.ro.lt q hq).2)
  · exact (InnersAt.snoc hx _ _ h.si).kept hsz2 hA
  · exact h.ei.kept hsz2 hA
  · intro q e
    rcases G.at_ q e with e2 | e2
    · exact h.d1 q e2
    · exact ⟨fun e3 => by have := (h.eo.lt q e3).2; omega, fun e3 => by have := (h.ro.lt q e3).2; omega⟩

theorem AllI.enums {w0 : World} {P g cap : Nat} {l : List Tok} {O : Nat} {vs ve vr v' : Value} {sl el : List Value} {σ : PS} {r : RawD} {w w2 : World} (h : AllI w0 P g cap l O vs ve vr sl el σ r w) (hP : P < w0.heap.size) (hg : g < w0.heap.size) (hO : w0.heap.size ≤ O)
    (x : RChoice) (vx : Value) (hx : SliceAt w (ApartOf O vs ve vr) vx (itmN x) (itmC x)) (G : Grows O ve v' w w2) (ho : w2.ownsRow (O + 1) 97 3 v' (r.enums.length + 1) (chosL r.enums el ++ [.string x.name, .int .i64 (x.pos : Int), vx])) :
    AllI w0 P g cap l O vs v' vr sl (el ++ [vx]) σ ⟨r.structs, r.enums ++ [x], r.roots⟩ (w2.setCell ⟨O, 1, none⟩ v') := by
  have hsz := G.grown.size
  have hk : ∀ q, O < q → ve.ownBlock ≠ some q → q < w.heap.size → (w2.setCell ⟨O, 1, none⟩ v').heap[q]? = w.heap[q]? := fun q h3 h5 h4 => by
    rw [Below.heap_setCell _ _ _ _ (by simp; omega)]; exact G.grown.block q h4 (fun e => h5 e.symm)
  have hA : ∀ q, ApartOf O vs ve vr q → q < w.heap.size → (w2.setCell ⟨O, 1, none⟩ v').heap[q]? = w.heap[q]? ∧ ApartOf O vs v' vr q := fun q hq h4 => ⟨hk q hq.1 hq.2.2.1 h4, hq.1, hq.2.1, fun e => by
    rcases G.at_ q e with e2 | e2
    · exact hq.2.2.1 e2
    · omega, hq.2.2.2⟩
  have hsz2 : w.heap.size ≤ (w2.setCell ⟨O, 1, none⟩ v').heap.size := by rw [World.size_setCell]; exact hsz
  have hvO : ∀ q, ve.ownBlock = some q → O < q := fun q e => by have := (h.eo.lt q e).1; omega
  have hlO := blk_lt h.out
  have ho2 : w2.heap[O]? = _ := (G.grown.block O hlO (fun e => by have := hvO O e.symm; omega)).trans h.out
  refine ⟨(h.post.row G.grown (fun q e => by have := hvO q e; omega) hP hg).far hO hP hg 1 v', by rw [blk_set ho2]; rfl, ?_, ?_, ?_, ?_, ?_, ?_, ?_⟩
  · exact ownsRow_at h.so (fun q hq => hk q (by have := (h.so.lt q hq).1; omega) (fun e => (h.d1 q hq).1 e) (h.so.lt q hq).2)
  · have hl : r.enums.length = el.length := InnersAt.len _ _ h.ei
    rw [show (r.enums ++ [x]).length = r.enums.length + 1 by simp]
    rw [show chosL (r.enums ++ [x]) (el ++ [vx]) = chosL r.enums el ++ [.string x.name, .int .i64 (x.pos : Int), vx] from (hdCells_snoc _ _ x vx _ _ hl).symm]
    exact ownsRow_at ho (fun q hq => Below.heap_setCell _ _ _ _ (by have := (ho.lt q hq).1; simp; omega))
  · exact ownsRow_at h.ro (fun q hq => hk q (by have := (h.ro.lt q hq).1; omega) (fun e => h.d2 q e hq) (h.ro.lt q hq).2)
  · exact h.si.kept hsz2 hA
  · exact (InnersAt.snoc hx _ _ h.ei).kept hsz2 hA
  · intro q e
    refine ⟨fun e3 => ?_, (h.d1 q e).2⟩
    rcases G.at_ q e3 with e2 | e2
    · exact (h.d1 q e).1 e2
    · have := (h.so.lt q e).2; omega
  · intro q e
    rcases G.at_ q e with e2 | e2
    · exact h.d2 q e2
    · exact fun e3 => by have := (h.ro.lt q e3).2; omega

theorem AllI.roots {w0 : World} {P g cap : Nat} {l : List Tok} {O : Nat} {vs ve vr v' : Value} {sl el : List Value} {σ : PS} {r : RawD} {w w2 : World} (h : AllI w0 P g cap l O vs ve vr sl el σ r w) (hP : P < w0.heap.size) (hg : g < w0.heap.size) (hO : w0.heap.size ≤ O)
    (x : Tok) (G : Grows O vr v' w w2) (ho : w2.ownsRow (O + 1) 41 3 v' (r.roots.length + 1) (tokCells r.roots ++ [.int .i64 x.kind, .string x.text, .int .i64 (x.pos : Int)])) :
    AllI w0 P g cap l O vs ve v' sl el σ ⟨r.structs, r.enums, r.roots ++ [x]⟩ (w2.setCell ⟨O, 2, none⟩ v') := by
  have hsz := G.grown.size
  have hk : ∀ q, O < q → vr.ownBlock ≠ some q → q < w.heap.size → (w2.setCell ⟨O, 2, none⟩ v').heap[q]? = w.heap[q]? := fun q h3 h5 h4 => by
    rw [Below.heap_setCell _ _ _ _ (by simp; omega)]; exact G.grown.block q h4 (fun e => h5 e.symm)
  have hA : ∀ q, ApartOf O vs ve vr q → q < w.heap.size → (w2.setCell ⟨O, 2, none⟩ v').heap[q]? = w.heap[q]? ∧ ApartOf O vs ve v' q := fun q hq h4 => ⟨hk q hq.1 hq.2.2.2 h4, hq.1, hq.2.1, hq.2.2.1, fun e => by
    rcases G.at_ q e with e2 | e2
    · exact hq.2.2.2 e2
    · omega⟩
  have hsz2 : w.heap.size ≤ (w2.setCell ⟨O, 2, none⟩ v').heap.size := by rw [World.size_setCell]; exact hsz
  have hvO : ∀ q, vr.ownBlock = some q → O < q := fun q e => by have := (h.ro.lt q e).1; omega
  have hlO := blk_lt h.out
  have ho2 : w2.heap[O]? = _ := (G.grown.block O hlO (fun e => by have := hvO O e.symm; omega)).trans h.out
  refine ⟨(h.post.row G.grown (fun q e => by have := hvO q e; omega) hP hg).far hO hP hg 2 v', by rw [blk_set ho2]; rfl, ?_, ?_, ?_, ?_, ?_, ?_, ?_⟩
  · exact ownsRow_at h.so (fun q hq => hk q (by have := (h.so.lt q hq).1; omega) (fun e => (h.d1 q hq).2 e) (h.so.lt q hq).2)
  · exact ownsRow_at h.eo (fun q hq => hk q (by have := (h.eo.lt q hq).1; omega) (fun e => h.d2 q hq e) (h.eo.lt q hq).2)
  · rw [show (r.roots ++ [x]).length = r.roots.length + 1 by simp, ← tokCells_snoc]
    exact ownsRow_at ho (fun q hq => Below.heap_setCell _ _ _ _ (by have := (ho.lt q hq).1; simp; omega))
  · exact h.si.kept hsz2 hA
  · exact h.ei.kept hsz2 hA
  · intro q e
    refine ⟨(h.d1 q e).1, fun e3 => ?_⟩
    rcases G.at_ q e3 with e2 | e2
    · exact (h.d1 q e).2 e2
    · have := (h.so.lt q e).2; omega
  · intro q e e3
    rcases G.at_ q e3 with e2 | e2
    · exact h.d2 q e e2
    · have := (h.eo.lt q e).2; omega

end Go.Proofs.Ytgoaiokpnifhfaa
