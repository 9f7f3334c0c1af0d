/-
  Parts: RefP8, RefP9.
-/
import Derived.Test.YtgoaiokpnifhfaaDoorPkRefP5
import Derived.Test.YtgoaiokpnifhfaaDoorPkIdl7
import Derived.Test.YtgoaiokpnifhfaaDoorPkRefToks
import Derived.Test.YtgoaiokpnifhfaaDoorPkIdl10

/-
  The document's parser: where the whole text's reading stands.
-/
namespace Go.Proofs.YtgoaiokpnifhfaaDoor
open Go.RowKit
set_option linter.unusedVariables false
set_option linter.unusedSimpArgs false

theorem Eqv.left {l : List Tok} {σ τ : PS} (h : Eqv σ τ) : left l σ = left l τ := by
  unfold Go.Proofs.YtgoaiokpnifhfaaDoor.left
  rw [h.c]
  split
  · rename_i hc
    rw [h.eq (by rw [h.c]; exact hc)]
  · rfl

/-- where the whole text's reading stands -/
structure RalI (w0 : World) (P g cap : Nat) (l : List Tok) (O : Nat) (vs ve vr : Value) (sl el : List Value) (σ : PS) (r : RawD) (w : World) : Prop where
  post : RPost w0 P g cap l σ w
  out : w.heap[O]? = some (.cells #[vs, ve, vr] 116 (0, 0))
  so : w.ownsRow (O + 1) 121 3 vs r.structs.length (recsL r.structs sl)
  eo : w.ownsRow (O + 1) 190 3 ve r.enums.length (chosL r.enums el)
  ro : w.ownsRow (O + 1) 102 3 vr r.roots.length (tokCells r.roots)
  si : InnersAt w (ApartOf O vs ve vr) fldN fldC r.structs sl
  ei : InnersAt w (ApartOf O vs ve vr) itmN itmC r.enums el
  d1 : ∀ q, vs.ownBlock = some q → ve.ownBlock ≠ some q ∧ vr.ownBlock ≠ some q
  d2 : ∀ q, ve.ownBlock = some q → vr.ownBlock ≠ some q
theorem RalI.step {w0 : World} {P g cap : Nat} {l : List Tok} {O : Nat} {vs ve vr : Value} {sl el : List Value} {σ τ : PS} {r : RawD} {w w' : World} (h : RalI w0 P g cap l O vs ve vr sl el σ r w) (hP : P < w0.heap.size) (hO : w0.heap.size ≤ O) (h2 : RPost w P g cap l τ w') : RalI w0 P g cap l O vs ve vr sl el τ r w' := by
  have hk : ∀ q, O < q → q < w.heap.size → w'.heap[q]? = w.heap[q]? := fun q h3 h4 => h2.grown.block q h4 (fun e => by have e2 := Option.some.inj e; omega)
  have hsz := h2.grown.size
  exact ⟨h.post.trans h2, blk_grown h.out h2.grown (by omega), ownsRow_at h.so (fun q hq => hk q (by have := (h.so.lt q hq).1; omega) (h.so.lt q hq).2), ownsRow_at h.eo (fun q hq => hk q (by have := (h.eo.lt q hq).1; omega) (h.eo.lt q hq).2), ownsRow_at h.ro (fun q hq => hk q (by have := (h.ro.lt q hq).1; omega) (h.ro.lt q hq).2),
    h.si.kept hsz (fun q hq h4 => ⟨hk q hq.1 h4, hq⟩), h.ei.kept hsz (fun q hq h4 => ⟨hk q hq.1 h4, hq⟩), h.d1, h.d2⟩

theorem RalI.structs {w0 : World} {P g cap : Nat} {l : List Tok} {O : Nat} {vs ve vr v' : Value} {sl el : List Value} {σ : PS} {r : RawD} {w w2 : World} (h : RalI w0 P g cap l O vs ve vr sl el σ r w) (hP : P < w0.heap.size) (hg : g < w0.heap.size) (hO : w0.heap.size ≤ O)
    (x : RRec) (vx : Value) (hx : SliceAt w (ApartOf O vs ve vr) vx (fldN x) (fldC x)) (G : Grows O vs v' w w2) (ho : w2.ownsRow (O + 1) 121 3 v' (r.structs.length + 1) (recsL r.structs sl ++ [.string x.name, .int .i64 (x.pos : Int), vx])) :
    RalI w0 P g cap l O v' ve vr (sl ++ [vx]) el σ ⟨r.structs ++ [x], r.enums, r.roots⟩ (w2.setCell ⟨O, 0, none⟩ v') := by
  have hsz := G.grown.size
  have hk : ∀ q, O < q → vs.ownBlock ≠ some q → q < w.heap.size → (w2.setCell ⟨O, 0, none⟩ v').heap[q]? = w.heap[q]? := fun q h3 h5 h4 => by
    rw [Below.heap_setCell _ _ _ _ (by simp; omega)]; exact G.grown.block q h4 (fun e => h5 e.symm)
  have hA : ∀ q, ApartOf O vs ve vr q → q < w.heap.size → (w2.setCell ⟨O, 0, none⟩ v').heap[q]? = w.heap[q]? ∧ ApartOf O v' ve vr q := fun q hq h4 => ⟨hk q hq.1 hq.2.1 h4, hq.1, fun e => by
    rcases G.at_ q e with e2 | e2
    · exact hq.2.1 e2
    · omega, hq.2.2.1, hq.2.2.2⟩
  have hsz2 : w.heap.size ≤ (w2.setCell ⟨O, 0, none⟩ v').heap.size := by rw [World.size_setCell]; exact hsz
  have hvO : ∀ q, vs.ownBlock = some q → O < q := fun q e => by have := (h.so.lt q e).1; omega
  have hlO := blk_lt h.out
  have ho2 : w2.heap[O]? = _ := (G.grown.block O hlO (fun e => by have := hvO O e.symm; omega)).trans h.out
  refine ⟨(h.post.row G.grown (fun q e => by have := hvO q e; omega) hP hg).far hO hP hg 0 v', by rw [blk_set ho2]; rfl, ?_, ?_, ?_, ?_, ?_, ?_, h.d2⟩
  · have hl : r.structs.length = sl.length := InnersAt.len _ _ h.si
    rw [show (r.structs ++ [x]).length = r.structs.length + 1 by simp]
    rw [show recsL (r.structs ++ [x]) (sl ++ [vx]) = recsL r.structs sl ++ [.string x.name, .int .i64 (x.pos : Int), vx] from (hdCells_snoc _ _ x vx _ _ hl).symm]
    exact ownsRow_at ho (fun q hq => Below.heap_setCell _ _ _ _ (by have := (ho.lt q hq).1; simp; omega))
  · exact ownsRow_at h.eo (fun q hq => hk q (by have := (h.eo.lt q hq).1; omega) (fun e => (h.d1 q e).1 hq) (h.eo.lt q hq).2)
  · exact ownsRow_at h.ro (fun q hq => hk q (by have := (h.ro.lt q hq).1; omega) (fun e => (h.d1 q e).2 hq) (h.ro.lt q hq).2)
  · exact (InnersAt.snoc hx _ _ h.si).kept hsz2 hA
  · exact h.ei.kept hsz2 hA
  · intro q e
    rcases G.at_ q e with e2 | e2
    · exact h.d1 q e2
    · exact ⟨fun e3 => by have := (h.eo.lt q e3).2; omega, fun e3 => by have := (h.ro.lt q e3).2; omega⟩

theorem RalI.enums {w0 : World} {P g cap : Nat} {l : List Tok} {O : Nat} {vs ve vr v' : Value} {sl el : List Value} {σ : PS} {r : RawD} {w w2 : World} (h : RalI w0 P g cap l O vs ve vr sl el σ r w) (hP : P < w0.heap.size) (hg : g < w0.heap.size) (hO : w0.heap.size ≤ O)
    (x : RChoice) (vx : Value) (hx : SliceAt w (ApartOf O vs ve vr) vx (itmN x) (itmC x)) (G : Grows O ve v' w w2) (ho : w2.ownsRow (O + 1) 190 3 v' (r.enums.length + 1) (chosL r.enums el ++ [.string x.name, .int .i64 (x.pos : Int), vx])) :
    RalI w0 P g cap l O vs v' vr sl (el ++ [vx]) σ ⟨r.structs, r.enums ++ [x], r.roots⟩ (w2.setCell ⟨O, 1, none⟩ v') := by
  have hsz := G.grown.size
  have hk : ∀ q, O < q → ve.ownBlock ≠ some q → q < w.heap.size → (w2.setCell ⟨O, 1, none⟩ v').heap[q]? = w.heap[q]? := fun q h3 h5 h4 => by
    rw [Below.heap_setCell _ _ _ _ (by simp; omega)]; exact G.grown.block q h4 (fun e => h5 e.symm)
  have hA : ∀ q, ApartOf O vs ve vr q → q < w.heap.size → (w2.setCell ⟨O, 1, none⟩ v').heap[q]? = w.heap[q]? ∧ ApartOf O vs v' vr q := fun q hq h4 => ⟨hk q hq.1 hq.2.2.1 h4, hq.1, hq.2.1, fun e => by
    rcases G.at_ q e with e2 | e2
    · exact hq.2.2.1 e2
    · omega, hq.2.2.2⟩
  have hsz2 : w.heap.size ≤ (w2.setCell ⟨O, 1, none⟩ v').heap.size := by rw [World.size_setCell]; exact hsz
  have hvO : ∀ q, ve.ownBlock = some q → O < q := fun q e => by have := (h.eo.lt q e).1; omega
  have hlO := blk_lt h.out
  have ho2 : w2.heap[O]? = _ := (G.grown.block O hlO (fun e => by have := hvO O e.symm; omega)).trans h.out
  refine ⟨(h.post.row G.grown (fun q e => by have := hvO q e; omega) hP hg).far hO hP hg 1 v', by rw [blk_set ho2]; rfl, ?_, ?_, ?_, ?_, ?_, ?_, ?_⟩
  · exact ownsRow_at h.so (fun q hq => hk q (by have := (h.so.lt q hq).1; omega) (fun e => (h.d1 q hq).1 e) (h.so.lt q hq).2)
  · have hl : r.enums.length = el.length := InnersAt.len _ _ h.ei
    rw [show (r.enums ++ [x]).length = r.enums.length + 1 by simp]
    rw [show chosL (r.enums ++ [x]) (el ++ [vx]) = chosL r.enums el ++ [.string x.name, .int .i64 (x.pos : Int), vx] from (hdCells_snoc _ _ x vx _ _ hl).symm]
    exact ownsRow_at ho (fun q hq => Below.heap_setCell _ _ _ _ (by have := (ho.lt q hq).1; simp; omega))
  · exact ownsRow_at h.ro (fun q hq => hk q (by have := (h.ro.lt q hq).1; omega) (fun e => h.d2 q e hq) (h.ro.lt q hq).2)
  · exact h.si.kept hsz2 hA
  · exact (InnersAt.snoc hx _ _ h.ei).kept hsz2 hA
  · intro q e
    refine ⟨fun e3 => ?_, (h.d1 q e).2⟩
    rcases G.at_ q e3 with e2 | e2
    · exact (h.d1 q e).1 e2
    · have := (h.so.lt q e).2; omega
  · intro q e
    rcases G.at_ q e with e2 | e2
    · exact h.d2 q e2
    · exact fun e3 => by have := (h.ro.lt q e3).2; omega

theorem RalI.roots {w0 : World} {P g cap : Nat} {l : List Tok} {O : Nat} {vs ve vr v' : Value} {sl el : List Value} {σ : PS} {r : RawD} {w w2 : World} (h : RalI w0 P g cap l O vs ve vr sl el σ r w) (hP : P < w0.heap.size) (hg : g < w0.heap.size) (hO : w0.heap.size ≤ O)
    (x : Tok) (G : Grows O vr v' w w2) (ho : w2.ownsRow (O + 1) 102 3 v' (r.roots.length + 1) (tokCells r.roots ++ [.int .i64 x.kind, .string x.text, .int .i64 (x.pos : Int)])) :
    RalI w0 P g cap l O vs ve v' sl el σ ⟨r.structs, r.enums, r.roots ++ [x]⟩ (w2.setCell ⟨O, 2, none⟩ v') := by
  have hsz := G.grown.size
  have hk : ∀ q, O < q → vr.ownBlock ≠ some q → q < w.heap.size → (w2.setCell ⟨O, 2, none⟩ v').heap[q]? = w.heap[q]? := fun q h3 h5 h4 => by
    rw [Below.heap_setCell _ _ _ _ (by simp; omega)]; exact G.grown.block q h4 (fun e => h5 e.symm)
  have hA : ∀ q, ApartOf O vs ve vr q → q < w.heap.size → (w2.setCell ⟨O, 2, none⟩ v').heap[q]? = w.heap[q]? ∧ ApartOf O vs ve v' q := fun q hq h4 => ⟨hk q hq.1 hq.2.2.2 h4, hq.1, hq.2.1, hq.2.2.1, fun e => by
    rcases G.at_ q e with e2 | e2
    · exact hq.2.2.2 e2
    · omega⟩
  have hsz2 : w.heap.size ≤ (w2.setCell ⟨O, 2, none⟩ v').heap.size := by rw [World.size_setCell]; exact hsz
  have hvO : ∀ q, vr.ownBlock = some q → O < q := fun q e => by have := (h.ro.lt q e).1; omega
  have hlO := blk_lt h.out
  have ho2 : w2.heap[O]? = _ := (G.grown.block O hlO (fun e => by have := hvO O e.symm; omega)).trans h.out
  refine ⟨(h.post.row G.grown (fun q e => by have := hvO q e; omega) hP hg).far hO hP hg 2 v', by rw [blk_set ho2]; rfl, ?_, ?_, ?_, ?_, ?_, ?_, ?_⟩
  · exact ownsRow_at h.so (fun q hq => hk q (by have := (h.so.lt q hq).1; omega) (fun e => (h.d1 q hq).2 e) (h.so.lt q hq).2)
  · exact ownsRow_at h.eo (fun q hq => hk q (by have := (h.eo.lt q hq).1; omega) (fun e => h.d2 q hq e) (h.eo.lt q hq).2)
  · rw [show (r.roots ++ [x]).length = r.roots.length + 1 by simp, ← tokCells_snoc]
    exact ownsRow_at ho (fun q hq => Below.heap_setCell _ _ _ _ (by have := (ho.lt q hq).1; simp; omega))
  · exact h.si.kept hsz2 hA
  · exact h.ei.kept hsz2 hA
  · intro q e
    refine ⟨(h.d1 q e).1, fun e3 => ?_⟩
    rcases G.at_ q e3 with e2 | e2
    · exact (h.d1 q e).2 e2
    · have := (h.so.lt q e).2; omega
  · intro q e e3
    rcases G.at_ q e3 with e2 | e2
    · exact h.d2 q e e2
    · have := (h.eo.lt q e).2; omega

theorem RalI.rawIn {w0 : World} {P g cap : Nat} {l : List Tok} {O : Nat} {vs ve vr : Value} {sl el : List Value} {σ : PS} {r : RawD} {w : World} (h : RalI w0 P g cap l O vs ve vr sl el σ r w) : RawIn w (fun q => O < q) vs ve vr r :=
  ⟨sl, el, SliceAt.of_own h.so (fun q _ h3 _ => Nat.lt_of_lt_of_le (Nat.lt_succ_self O) h3), SliceAt.of_own h.eo (fun q _ h3 _ => Nat.lt_of_lt_of_le (Nat.lt_succ_self O) h3), SliceAt.of_own h.ro (fun q _ h3 _ => Nat.lt_of_lt_of_le (Nat.lt_succ_self O) h3), h.si.kept (Nat.le_refl _) (fun q hq _ => ⟨rfl, hq.1⟩), h.ei.kept (Nat.le_refl _) (fun q hq _ => ⟨rfl, hq.1⟩)⟩
theorem RalI.apart_new {w0 : World} {P g cap : Nat} {l : List Tok} {O : Nat} {vs ve vr : Value} {sl el : List Value} {σ : PS} {r : RawD} {w : World} (h : RalI w0 P g cap l O vs ve vr sl el σ r w) {q : Nat} (hq : w.heap.size ≤ q) : ApartOf O vs ve vr q :=
  ⟨by have := blk_lt h.out; omega, fun e => by have := (h.so.lt q e).2; omega, fun e => by have := (h.eo.lt q e).2; omega, fun e => by have := (h.ro.lt q e).2; omega⟩
theorem rall_struct_app {w0 : World} {P g cap : Nat} {l : List Tok} {O : Nat} {vs ve vr : Value} {sl el : List Value} {σ : PS} {r : RawD} {wB w8 : World} {o : Obj} (h : RalI w0 P g cap l O vs ve vr sl el σ r wB) (hP : P < w0.heap.size) (hg : g < w0.heap.size) (hO : w0.heap.size ≤ O)
    (X : RRec) (vx : Value) (hx : SliceAt wB (ApartOf O vs ve vr) vx (fldN X) (fldC X)) {g2 c : Nat} (hgr : (wB.alloc o).grownBy w8 vs.ownBlock) (ha : vs.ownBlock = some g2 ∨ g2 = (wB.alloc o).heap.size) (ho : w8.ownsRow (O + 1) 121 3 (.slice (some ⟨g2, 0, none⟩) (r.structs.length + 1) c) (r.structs.length + 1) (recsL r.structs sl ++ [.string X.name, .int .i64 (X.pos : Int), vx])) :
    RalI w0 P g cap l O (.slice (some ⟨g2, 0, none⟩) (r.structs.length + 1) c) ve vr (sl ++ [vx]) el σ ⟨r.structs ++ [X], r.enums, r.roots⟩ (w8.setCell ⟨O, 0, none⟩ (.slice (some ⟨g2, 0, none⟩) (r.structs.length + 1) c)) :=
  (h.step hP hO (RPost.of_below h.post.par (below1 _ _))).structs hP hg hO X vx (hx.kept (by simp) (fun q hq hl => ⟨Below.heap_alloc _ _ _ hl, hq⟩)) (grows_of hgr ha) ho
theorem rall_enum_app {w0 : World} {P g cap : Nat} {l : List Tok} {O : Nat} {vs ve vr : Value} {sl el : List Value} {σ : PS} {r : RawD} {wB w8 : World} {o : Obj} (h : RalI w0 P g cap l O vs ve vr sl el σ r wB) (hP : P < w0.heap.size) (hg : g < w0.heap.size) (hO : w0.heap.size ≤ O)
    (X : RChoice) (vx : Value) (hx : SliceAt wB (ApartOf O vs ve vr) vx (itmN X) (itmC X)) {g2 c : Nat} (hgr : (wB.alloc o).grownBy w8 ve.ownBlock) (ha : ve.ownBlock = some g2 ∨ g2 = (wB.alloc o).heap.size) (ho : w8.ownsRow (O + 1) 190 3 (.slice (some ⟨g2, 0, none⟩) (r.enums.length + 1) c) (r.enums.length + 1) (chosL r.enums el ++ [.string X.name, .int .i64 (X.pos : Int), vx])) :
    RalI w0 P g cap l O vs (.slice (some ⟨g2, 0, none⟩) (r.enums.length + 1) c) vr sl (el ++ [vx]) σ ⟨r.structs, r.enums ++ [X], r.roots⟩ (w8.setCell ⟨O, 1, none⟩ (.slice (some ⟨g2, 0, none⟩) (r.enums.length + 1) c)) :=
  (h.step hP hO (RPost.of_below h.post.par (below1 _ _))).enums hP hg hO X vx (hx.kept (by simp) (fun q hq hl => ⟨Below.heap_alloc _ _ _ hl, hq⟩)) (grows_of hgr ha) ho
theorem rall_root_app {w0 : World} {P g cap : Nat} {l : List Tok} {O : Nat} {vs ve vr : Value} {sl el : List Value} {σ : PS} {r : RawD} {wB w8 : World} {o : Obj} (h : RalI w0 P g cap l O vs ve vr sl el σ r wB) (hP : P < w0.heap.size) (hg : g < w0.heap.size) (hO : w0.heap.size ≤ O)
    (X : Tok) {g2 c : Nat} (hgr : (wB.alloc o).grownBy w8 vr.ownBlock) (ha : vr.ownBlock = some g2 ∨ g2 = (wB.alloc o).heap.size) (ho : w8.ownsRow (O + 1) 102 3 (.slice (some ⟨g2, 0, none⟩) (r.roots.length + 1) c) (r.roots.length + 1) (tokCells r.roots ++ [.int .i64 X.kind, .string X.text, .int .i64 (X.pos : Int)])) :
    RalI w0 P g cap l O vs ve (.slice (some ⟨g2, 0, none⟩) (r.roots.length + 1) c) sl el σ ⟨r.structs, r.enums, r.roots ++ [X]⟩ (w8.setCell ⟨O, 2, none⟩ (.slice (some ⟨g2, 0, none⟩) (r.roots.length + 1) c)) :=
  (h.step hP hO (RPost.of_below h.post.par (below1 _ _))).roots hP hg hO X (grows_of hgr ha) ho
end Go.Proofs.YtgoaiokpnifhfaaDoor

/-
  The document's parser: Parse.
-/
namespace Go.Proofs.YtgoaiokpnifhfaaDoor
open Go.RowKit
set_option linter.unusedVariables false
set_option linter.unusedSimpArgs false

/-- what the document's Parse comes to -/
def RefParsePost (w : World) (o : Except (Int × Nat) RawD) (e : Ending) (w' : World) : Prop :=
  Below w.heap.size w w' ∧
  match o with
  | .error (c, p) => e = .returned (.tuple #[.agg #[.slice none 0 0, .slice none 0 0, .slice none 0 0], .int .i64 c, .int .i64 (p : Int)])
  | .ok r => ∃ vs ve vr, e = .returned (.tuple #[.agg #[vs, ve, vr], .int .i64 0, .int .i64 0]) ∧ RawAt w' vs ve vr r

set_option maxHeartbeats 2000000 in
set_option maxRecDepth 100000 in
theorem refParse_calls (s : ByteArray) (w : World) (hT : Tabs w) (hs : s.size ≤ 140737488351232) : Calls Tryd.prog 51 #[.string s] w (RefParsePost w (parseI s)) := by
  have htk := refTokens_calls s sgI (w.alloc (Obj.cells #[Value.slice none 0 0, Value.slice none 0 0, Value.slice none 0 0] 116 (0, 0))) (hT.below (below1 _ _)) hs (by decide)
  cases ho : toks s sgI with
  | error x =>
    obtain ⟨c, p⟩ := x
    rw [ho] at htk
    have HP := Lib.hid (show parseI s = .error (c, p) by unfold parseI; rw [ho])
    have bc : (c != 0) = true := by rw [bne_iff_ne]; exact toks_err ho
    have HK := Lib.hid htk
    clear htk ho hT
    go_enter Tryd.func51, Tryd.ntmps51
    go_wp2_with fail
    refine HK.out.mono ?_
    rintro e w1 ⟨hB1, rfl⟩
    have hO1 := blk_below (blk_new w _) hB1 (by simp)
    have HB1 := Lib.hid ((below1 w _).trans (hB1.mono (by simp)))
    obtain ⟨O, hO⟩ : ∃ O, O = w.heap.size := ⟨_, rfl⟩
    rw [← hO] at hO1 ⊢
    have hOw : w.heap.size ≤ O := by omega
    have r0 : w1.cell? ⟨O, 0, none⟩ = some (.slice none 0 0) := by rw [blk_cell hO1]; rfl
    have r1 : w1.cell? ⟨O, 1, none⟩ = some (.slice none 0 0) := by rw [blk_cell hO1]; rfl
    have r2 : w1.cell? ⟨O, 2, none⟩ = some (.slice none 0 0) := by rw [blk_cell hO1]; rfl
    have z0 : w1.frozen? ⟨O, 0, none⟩ = false := blk_frozen hO1 _
    have z1 : w1.frozen? ⟨O, 1, none⟩ = false := blk_frozen hO1 _
    have z2 : w1.frozen? ⟨O, 2, none⟩ = false := blk_frozen hO1 _
    have lO := blk_lt hO1
    clear hB1 hO1 hO
    go_wp2_with fail
    refine bodyPost_ret (v := .tuple #[.agg #[.slice none 0 0, .slice none 0 0, .slice none 0 0], .int .i64 c, .int .i64 (p : Int)]) (by simp [results, Tryd.results51, go_sem, *]) rfl ?_
    unfold RefParsePost
    rw [HP.out]
    have hB := HB1.out
    exact ⟨by (repeat' (first | (with_reducible exact Below.refl _ _) | (with_reducible assumption) | (with_reducible refine below_drewN ?_ _) | (with_reducible refine Below.alloc ?_ ?_ _) | (with_reducible refine Below.drew ?_) | (with_reducible refine Below.setCell ?_ ?_ _) | (with_reducible refine Below.trans ?_ (Below.mono (by assumption) ?_)) | go_size)), rfl⟩
  | ok l =>
    rw [ho] at htk
    have HP := Lib.hid (show parseI s = rawOf l by unfold parseI; rw [ho])
    have HEN := Lib.hid (toks_ended ho)
    have HMO := Lib.hid (toks_most ho)
    have HK := Lib.hid htk
    clear htk ho hT
    go_enter Tryd.func51, Tryd.ntmps51
    go_wp2_with fail
    refine HK.out.mono ?_
    rintro e w1 ⟨hB1, v, rfl, hown⟩
    have hO1 := blk_below (blk_new w _) hB1 (by simp)
    have HB1 := Lib.hid ((below1 w _).trans (hB1.mono (by simp)))
    have HO1 := Lib.hid hO1
    obtain ⟨g, cap, rfl, hg1, hg2⟩ := hown.form HEN.out.1
    have hTk : ToksIn w1 g l := fun k hk => by
      have hc := tokCells_k l k hk
      have h3 := hown.cells (g := g) rfl
      refine ⟨?_, ?_, ?_⟩
      · have := h3 (k * 3) _ hc.1; simpa [Addr.add_lit] using this
      · have := h3 (k * 3 + 1) _ hc.2.1; simpa [Addr.add_lit] using this
      · have := h3 (k * 3 + 2) _ hc.2.2; simpa [Addr.add_lit] using this
    have HTK := Lib.hid hTk
    clear hB1 hO1 hown hTk
    go_wp2_with fail
    obtain ⟨P, hP⟩ : ∃ P, P = w1.heap.size := ⟨_, rfl⟩
    obtain ⟨R, hR⟩ : ∃ R, R = w.heap.size := ⟨_, rfl⟩
    obtain ⟨O, hO⟩ : ∃ O, O = w1.heap.size + 1 := ⟨_, rfl⟩
    obtain ⟨w0, hw0⟩ : ∃ w0, w0 = w1.alloc (Obj.cells #[Value.slice (some ⟨g, 0, none⟩) l.length cap, Value.int .i64 0, Value.int .i64 0, Value.int .i64 0] 185) := ⟨_, rfl⟩
    have hb0 : Below w.heap.size w w0 := by rw [hw0]; exact HB1.out.trans ((below1 _ _).mono HB1.out.size)
    have hb01 : Below w1.heap.size w1 w0 := by rw [hw0]; exact below1 _ _
    have hPar : RAt w0 P g cap l ⟨0, 0, 0⟩ := by
      refine ⟨?_, HTK.out.kept (hb01.block g hg2), by omega, HEN.out, by have := HEN.out.1; show 0 + 1 ≤ l.length; omega, by have := HMO.out; omega⟩
      rw [hw0, hP]; exact blk_new w1 (rparB g cap l ⟨0, 0, 0⟩)
    have hRes : w0.heap[R]? = some (Obj.cells #[Value.slice none 0 0, Value.slice none 0 0, Value.slice none 0 0] 116 (0, 0)) := by rw [hR]; exact blk_below HO1.out hb01 (blk_lt HO1.out)
    have hs0 : w0.heap.size = w1.heap.size + 1 := by rw [hw0]; simp
    have hw1s := HB1.out.size
    have lRw := blk_lt HO1.out
    have hP0 : P < w0.heap.size := by omega
    have hg0 : g < w0.heap.size := by omega
    have hO0 : w0.heap.size ≤ O := by omega
    have hRP : R < P := by omega
    have hRO : R < O := by omega
    have hRw : w.heap.size ≤ R := by omega
    have hOP : O ≠ P := by omega
    have hA0 : RalI w0 P g cap l O (.slice none 0 0) (.slice none 0 0) (.slice none 0 0) [] [] ⟨0, 0, 0⟩ ⟨[], [], []⟩ (w0.alloc (Obj.cells #[Value.slice none 0 0, Value.slice none 0 0, Value.slice none 0 0] 116)) := by
      refine ⟨RPost.of_below hPar (below1 _ _), ?_, World.ownsRow_nil _ _ _ _, World.ownsRow_nil _ _ _ _, World.ownsRow_nil _ _ _ _, trivial, trivial, (fun q e => by cases e), (fun q e => by cases e)⟩
      rw [hO, ← hs0]; exact blk_new _ _
    rw [← hw0, ← hO, ← hR, ← hP]
    have HA0 := Lib.hid hA0
    have HB0 := Lib.hid hb0
    have HRES := Lib.hid hRes
    have HE := HEN
    have hz : allR l = allLoop l (l.length + 1) ⟨0, 0, 0⟩ ⟨[], [], []⟩ := rfl
    have HZ := Lib.hid hz
    obtain ⟨ir, hir, hr0, hr1, hr2⟩ := info_parts info_rec
    obtain ⟨ic, hic, hc0, hc1, hc2⟩ := info_parts info_cho
    obtain ⟨it, hit, ht0, ht1, ht2⟩ := info_parts info_token
    have kf := fun (w : World) (a b c : Value) => field_tok0 w a b c
    have hsm : l.length ≤ 100000 := by have := HMO.out; omega
    clear hA0 hb0 hb01 hPar hRes hw0 hR hO hP hs0 hz hg1 hg2 hw1s lRw
    go_loopw [] (fun wr => ∃ (f : Nat) (τ τ' : PS) (r r' : RawD) (vs ve vr : Value) (sl el : List Value), left l τ ≤ f ∧ cntR r + left l τ ≤ l.length + 1 ∧ Hid (allR l = allLoop l f τ' r') ∧ Hid (Eqv τ τ') ∧ Hid (τ.c = 0 → r = r') ∧ Hid (RalI w0 P g cap l O vs ve vr sl el τ r wr)) (fun wr => parLeft wr P l)
    case atStart => exact ⟨l.length + 1, _, _, _, _, _, _, _, [], [], left_le, by have := @left_le l ⟨0, 0, 0⟩; simp [cntR]; omega, HZ.out, .inl rfl, fun _ => rfl, HA0.out⟩
    case round =>
      obtain ⟨f, τ, τ', r, r', vs, ve, vr, sl, el, hf, hcn, hs, hq, ha, hI⟩ := hrel
      have hpar := hI.out.post.par
      have p2 : wr.cell? ⟨P, 2, none⟩ = some (.int .i64 τ.c) := by rw [blk_cell hpar.blk]; rfl
      have lPr := blk_lt hpar.blk
      have HPL := Lib.hid (rparLeft_of hpar)
      by_cases h0 : τ.c = 0
      · obtain rfl : τ = τ' := hq.out.eq h0
        obtain rfl : r = r' := ha.out h0
        obtain ⟨t, htt⟩ : ∃ t, hereT l τ.a = t := ⟨_, rfl⟩
        have hh : ∀ (W : World), RAt W P g cap l τ → Calls Tryd.prog 105 #[.pointer (some ⟨P, 0, none⟩)] W fun e w' => e = .returned (.agg #[.int .i64 t.kind, .string t.text, .int .i64 (t.pos : Int)]) ∧ Below W.heap.size W w' := fun W h => by have := rhere_calls P g cap l τ W h; rw [htt] at this; exact this
        have HH := Lib.hid hh
        have HTT := Lib.hid htt
        clear hh htt
        have b0 : (τ.c == 0) = true := by rw [beq_iff_eq]; exact h0
        by_cases hk : t.kind = 0
        · have k1 : (t.kind != 0) = false := by rw [hk]; rfl
          have b1 : (τ.c != 0) = false := by rw [bne_eq_false_iff_eq]; exact h0
          have HR := Lib.hid (show allR l = (r, τ) by rw [hs.out, allLoop_stop (fun h => h.2 (by rw [HTT.out]; exact hk))])
          have HQ := Lib.hid (show parseI s = .ok r by rw [HP.out, rawOf, HR.out]; exact if_pos h0)
          clear h0 hk hpar
          go_wp2_with fail
          refine (HH.out _ hI.out.post.par).mono ?_
          rintro e w2 ⟨rfl, hB2⟩
          have hI2 := hI.out.step hP0 hO0 (RPost.of_below hI.out.post.par hB2)
          clear hB2 p2
          have hO2 := hI2.out
          obtain ⟨avs, cvs, rfl⟩ := own_len hI2.so
          obtain ⟨ave, cve, rfl⟩ := own_len hI2.eo
          obtain ⟨avr, cvr, rfl⟩ := own_len hI2.ro
          have o0 : w2.cell? ⟨O, 0, none⟩ = some (.slice avs r.structs.length cvs) := by rw [blk_cell hO2]; rfl
          have o1 : w2.cell? ⟨O, 1, none⟩ = some (.slice ave r.enums.length cve) := by rw [blk_cell hO2]; rfl
          have o2 : w2.cell? ⟨O, 2, none⟩ = some (.slice avr r.roots.length cvr) := by rw [blk_cell hO2]; rfl
          have hR2 := blk_grown HRES.out hI2.post.grown (by omega)
          have r0 : w2.cell? ⟨R, 0, none⟩ = some (.slice none 0 0) := by rw [blk_cell hR2]; rfl
          have r1 : w2.cell? ⟨R, 1, none⟩ = some (.slice none 0 0) := by rw [blk_cell hR2]; rfl
          have r2 : w2.cell? ⟨R, 2, none⟩ = some (.slice none 0 0) := by rw [blk_cell hR2]; rfl
          have z0 : w2.frozen? ⟨R, 0, none⟩ = false := blk_frozen hR2 _
          have z1 : w2.frozen? ⟨R, 1, none⟩ = false := blk_frozen hR2 _
          have z2 : w2.frozen? ⟨R, 2, none⟩ = false := blk_frozen hR2 _
          have hbP := hI2.post.par.blk
          have p2' : w2.cell? ⟨P, 2, none⟩ = some (.int .i64 τ.c) := by rw [blk_cell hbP]; rfl
          have p3' : w2.cell? ⟨P, 3, none⟩ = some (.int .i64 (τ.p : Int)) := by rw [blk_cell hbP]; rfl
          have lPx : P < w2.heap.size := blk_lt hbP
          have lOx : O < w2.heap.size := blk_lt hO2
          have lRx : R < w2.heap.size := blk_lt hR2
          have HI2 := Lib.hid hI2
          have HB3 := Lib.hid (HB0.out.grown hI2.post.grown (by omega) (fun k e => by have e2 := Option.some.inj e; omega))
          clear hI2 hO2 hR2 hbP
          go_wp2_with fail
          refine bodyPost_ret (v := .tuple #[.agg #[.slice avs r.structs.length cvs, .slice ave r.enums.length cve, .slice avr r.roots.length cvr], .int .i64 0, .int .i64 0]) (by simp [results, Tryd.results51, go_sem, *]) rfl ?_
          unfold RefParsePost
          rw [HQ.out]
          have hB := HB3.out
          exact ⟨by (repeat' (first | (with_reducible exact Below.refl _ _) | (with_reducible assumption) | (with_reducible refine below_drewN ?_ _) | (with_reducible refine Below.alloc ?_ ?_ _) | (with_reducible refine Below.drew ?_) | (with_reducible refine Below.setCell ?_ ?_ _) | (with_reducible refine Below.trans ?_ (Below.mono (by assumption) ?_)) | go_size)), _, _, _, rfl, RawIn.raw (A := fun q => O < q) (((HI2.out.rawIn.far hRO 0 _).far hRO 1 _).far hRO 2 _)⟩
        · have k1 : (t.kind != 0) = true := by rw [bne_iff_ne]; exact hk
          have hst := allLoop_step (f := f) (r := r) hf hpar.fine h0 (by rw [HTT.out]; exact hk)
          obtain ⟨f', rfl, hst⟩ := hst
          have HML := Lib.hid ((declS_moves HE.out hpar.fine).left h0 hpar.fine)
          have hff : left l (declS l τ) ≤ f' := by have := HML.out; omega
          have hcc : cntR (declV l τ r) + left l (declS l τ) ≤ l.length + 1 := by have := HML.out; have := declV_cnt l τ r; omega
          have hcs : cntR r + 1 + left l (declS l τ) ≤ l.length + 1 := by have := HML.out; omega
          have HCS := Lib.hid hcs
          have hcl : cntR r ≤ l.length := by have := HML.out; omega
          have hls : r.structs.length ≤ l.length := by unfold cntR at hcl; omega
          have hle : r.enums.length ≤ l.length := by unfold cntR at hcl; omega
          have hlr : r.roots.length ≤ l.length := by unfold cntR at hcl; omega
          have HST := Lib.hid (hs.out.trans hst)
          clear h0 hk hpar hst hcl hs hq ha hcs
          go_wp2_with fail
          refine (HH.out _ hI.out.post.par).mono ?_
          rintro e w2 ⟨rfl, hB2⟩
          have HI2 := Lib.hid (hI.out.step hP0 hO0 (RPost.of_below hI.out.post.par hB2))
          clear hB2 p2
          go_wp2_with fail
          have hsg := ris_calls P g cap l τ 1 cStruct _ HI2.out.post.par
          refine hsg.mono ?_
          rintro e w3 ⟨rfl, hB3⟩
          have hI3 := HI2.out.step hP0 hO0 (RPost.of_below HI2.out.post.par hB3)
          clear hB3 hsg
          cases h1 : isT l 1 cStruct τ with
          | true =>
            have HDS : declS l τ = recS l (goS τ) := by rw [declS, if_pos h1]
            have HDV : declV l τ r = ⟨r.structs ++ [recV l (goS τ)], r.enums, r.roots⟩ := by rw [declV, if_pos h1]
            have HFI := Lib.hid (fit_go HE.out hI3.post.par.fit (by rw [(isT_kind h1).2.1]; decide))
            have hbP := hI3.post.par.blk
            have p1' : w3.cell? ⟨P, 1, none⟩ = some (.int .i64 (τ.a : Int)) := by rw [blk_cell hbP]; rfl
            have y1' : w3.frozen? ⟨P, 1, none⟩ = false := blk_frozen hbP _
            have lPg : P < w3.heap.size := blk_lt hbP
            have ha1 : (τ.a : Int) ≤ 100000 := by have := hI3.post.par.fit; have := hI3.post.par.small; omega
            have HI4 := Lib.hid (hI3.step hP0 hO0 (rpar_go hI3.post.par HFI.out))
            obtain ⟨υ, hυ⟩ : ∃ υ, goS τ = υ := ⟨_, rfl⟩
            rw [hυ] at HI4 HDS HDV
            have HDS := Lib.hid HDS
            have HDV := Lib.hid HDV
            clear hbP h1 hI3 hυ
            go_wp2_with fail
            refine (rrecord_calls P g cap l υ _ HI4.out.post.par).mono ?_
            rintro e w5 ⟨v, fs, ζ, rfl, hown, hp5, heq, hfs⟩
            have hXS := SliceAt.of_own hown (fun q _ h3 _ => HI4.out.apart_new h3)
            obtain ⟨ax, cx, rfl⟩ := own_len hown
            have hI5 := HI4.out.step hP0 hO0 hp5
            obtain ⟨av, cv, hav⟩ := own_len hI5.so
            subst hav
            obtain ⟨X, hX⟩ : ∃ X : RRec, X = ⟨(recV l υ).name, (recV l υ).pos, fs⟩ := ⟨_, rfl⟩
            have e1 : (recV l υ).name = X.name := by rw [hX]
            have e2 : (recV l υ).pos = X.pos := by rw [hX]
            have e3 : fs = X.fields := by rw [hX]
            have hXr : ζ.c = 0 → X = recV l υ := fun h => by rw [hX, hfs h]
            rw [e3] at hXS
            rw [e1, e2, show fs.length = fldN X by rw [e3]; rfl]
            have HXR := Lib.hid hXr
            have HXS := Lib.hid (SliceAt.kept (A' := ApartOf O (.slice av r.structs.length cv) ve vr) hXS (by simp) (fun q hq hl => ⟨Below.heap_alloc w5 (Obj.cells #[.string X.name, .int .i64 (X.pos : Int), .slice ax (fldN X) cx] 121 (0, 0)) q hl, hq⟩))
            have HEQ := Lib.hid (show Eqv ζ (declS l τ) by rw [HDS.out]; exact heq)
            have HI5 := Lib.hid hI5
            clear hown hp5 heq hfs hXS e1 e2 e3 hX hXr hI5 p1' y1' lPg ha1
            have c0 : w5.cell? ⟨O, 0, none⟩ = some (.slice av r.structs.length cv) := by rw [blk_cell HI5.out.out]; rfl
            have c0a : _ = some (Value.slice av r.structs.length cv) := blk_cell (blk_alloc HI5.out.out (Obj.cells #[.string X.name, .int .i64 (X.pos : Int), .slice ax (fldN X) cx] 121 (0, 0))) 0
            have lO5 := blk_lt HI5.out.out
            have hown5 := HI5.out.so
            have HON := Lib.hid HI5.out.so.lt
            have HIa := Lib.hid (HI5.out.step hP0 hO0 (RPost.of_below HI5.out.post.par (below1 w5 (Obj.cells #[.string X.name, .int .i64 (X.pos : Int), .slice ax (fldN X) cx] 121 (0, 0)))))
            go_wp2_with (at_builtin; refine wpList_append_lies _ rfl _ _ 113 rfl (O + 1) 121 ir _ 3 48 Tryd.underlying113 hir hr0 hr1 hr2 rfl (by decide) _ _ _ rfl ((hown5.alloc _).alloc _) ⟨w5.heap.size + 1, 0, none⟩ 1 1 [.string X.name, .int .i64 (X.pos : Int), .slice ax (fldN X) cx] rfl rfl (news_three _ _ _ _ _ _) (by simp [Value.oneCell']) (by decide) (by unfold maxLen; omega) (by omega) (by simp; omega) _ rfl ?_)
            intro g2 cap2 w8 hown8 hgr8 hat8 hlt8
            have hO8 : w8.heap[O]? = _ := (hgr8.block O (by simp; omega) (fun e => by have := (HON.out O e.symm).1; omega)).trans (blk_alloc (blk_alloc HI5.out.out _) _)
            have c8 : w8.cell? ⟨O, 0, none⟩ = some (.slice av r.structs.length cv) := (blk_cell hO8 0).trans rfl
            have d8 : w8.frozen? ⟨O, 0, none⟩ = false := blk_frozen hO8 _
            have lO8 : O < w8.heap.size := blk_lt hO8
            have HI9 := Lib.hid (rall_struct_app HIa.out hP0 hg0 hO0 X _ HXS.out hgr8 (by simpa using hat8) hown8)
            clear hown8 hgr8 hat8 c0 c0a hO8 hown5
            go_wp2_with fail
            go_roundw
            case rel => exact ⟨f', _, _, _, _, _, _, _, _, _, by rw [HEQ.out.left]; exact hff, by rw [HEQ.out.left]; have := hcc; have := HCS.out; simp only [cntR, List.length_append, List.length_cons, List.length_nil] at *; omega, HST.out, HEQ.out, fun hc => by rw [HDV.out, HXR.out hc], HI9.out⟩
            case measure => rw [rparLeft_of HI9.out.post.par, HPL.out, HEQ.out.left]; exact HML.out
          | false =>
            have h0s := Lib.hid h1
            have HI2 := Lib.hid hI3
            clear h1 hI3
            go_wp2_with fail
            have hsg := ris_calls P g cap l τ 1 cEnum _ HI2.out.post.par
            refine hsg.mono ?_
            rintro e w4 ⟨rfl, hB3⟩
            have hI3 := HI2.out.step hP0 hO0 (RPost.of_below HI2.out.post.par hB3)
            clear hB3 hsg
            cases h1 : isT l 1 cEnum τ with
            | true =>
              have HDS : declS l τ = choS l (goS τ) := by rw [declS, if_neg (by rw [h0s.out]; simp), if_pos h1]
              have HDV : declV l τ r = ⟨r.structs, r.enums ++ [choV l (goS τ)], r.roots⟩ := by rw [declV, if_neg (by rw [h0s.out]; simp), if_pos h1]
              have HFI := Lib.hid (fit_go HE.out hI3.post.par.fit (by rw [(isT_kind h1).2.1]; decide))
              have hbP := hI3.post.par.blk
              have p1' : w4.cell? ⟨P, 1, none⟩ = some (.int .i64 (τ.a : Int)) := by rw [blk_cell hbP]; rfl
              have y1' : w4.frozen? ⟨P, 1, none⟩ = false := blk_frozen hbP _
              have lPg : P < w4.heap.size := blk_lt hbP
              have ha1 : (τ.a : Int) ≤ 100000 := by have := hI3.post.par.fit; have := hI3.post.par.small; omega
              have HI4 := Lib.hid (hI3.step hP0 hO0 (rpar_go hI3.post.par HFI.out))
              obtain ⟨υ, hυ⟩ : ∃ υ, goS τ = υ := ⟨_, rfl⟩
              rw [hυ] at HI4 HDS HDV
              have HDS := Lib.hid HDS
              have HDV := Lib.hid HDV
              clear hbP h1 hI3 hυ
              go_wp2_with fail
              refine (rchoice_calls P g cap l υ _ HI4.out.post.par).mono ?_
              rintro e w5 ⟨v, rfl, hown, hp5⟩
              have hXS := SliceAt.of_own hown (fun q _ h3 _ => HI4.out.apart_new h3)
              obtain ⟨ax, cx, rfl⟩ := own_len hown
              have hI5 := HI4.out.step hP0 hO0 hp5
              obtain ⟨av, cv, hav⟩ := own_len hI5.eo
              subst hav
              obtain ⟨X, hX⟩ : ∃ X : RChoice, choV l υ = X := ⟨_, rfl⟩
              rw [hX] at hXS HDV ⊢
              rw [show X.names.length = itmN X from rfl]
              have HXS := Lib.hid (SliceAt.kept (A' := ApartOf O vs (.slice av r.enums.length cv) vr) hXS (by simp) (fun q hq hl => ⟨Below.heap_alloc w5 (Obj.cells #[.string X.name, .int .i64 (X.pos : Int), .slice ax (itmN X) cx] 190 (0, 0)) q hl, hq⟩))
              rw [← HDS.out] at hI5
              have HI5 := Lib.hid hI5
              clear hown hp5 hXS hX hI5 p1' y1' lPg ha1
              have c0 : w5.cell? ⟨O, 1, none⟩ = some (.slice av r.enums.length cv) := by rw [blk_cell HI5.out.out]; rfl
              have c0a : _ = some (Value.slice av r.enums.length cv) := blk_cell (blk_alloc HI5.out.out (Obj.cells #[.string X.name, .int .i64 (X.pos : Int), .slice ax (itmN X) cx] 190 (0, 0))) 1
              have lO5 := blk_lt HI5.out.out
              have hown5 := HI5.out.eo
              have HON := Lib.hid HI5.out.eo.lt
              have HIa := Lib.hid (HI5.out.step hP0 hO0 (RPost.of_below HI5.out.post.par (below1 w5 (Obj.cells #[.string X.name, .int .i64 (X.pos : Int), .slice ax (itmN X) cx] 190 (0, 0)))))
              go_wp2_with (at_builtin; refine wpList_append_lies _ rfl _ _ 114 rfl (O + 1) 190 ic _ 3 48 Tryd.underlying114 hic hc0 hc1 hc2 rfl (by decide) _ _ _ rfl ((hown5.alloc _).alloc _) ⟨w5.heap.size + 1, 0, none⟩ 1 1 [.string X.name, .int .i64 (X.pos : Int), .slice ax (itmN X) cx] rfl rfl (news_three _ _ _ _ _ _) (by simp [Value.oneCell']) (by decide) (by unfold maxLen; omega) (by omega) (by simp; omega) _ rfl ?_)
              intro g2 cap2 w8 hown8 hgr8 hat8 hlt8
              have hO8 : w8.heap[O]? = _ := (hgr8.block O (by simp; omega) (fun e => by have := (HON.out O e.symm).1; omega)).trans (blk_alloc (blk_alloc HI5.out.out _) _)
              have c8 : w8.cell? ⟨O, 1, none⟩ = some (.slice av r.enums.length cv) := (blk_cell hO8 1).trans rfl
              have d8 : w8.frozen? ⟨O, 1, none⟩ = false := blk_frozen hO8 _
              have lO8 : O < w8.heap.size := blk_lt hO8
              have HI9 := Lib.hid (rall_enum_app HIa.out hP0 hg0 hO0 X _ HXS.out hgr8 (by simpa using hat8) hown8)
              clear hown8 hgr8 hat8 c0 c0a hO8 hown5
              go_wp2_with fail
              go_roundw
              case rel => exact ⟨f', _, _, _, _, _, _, _, _, _, hff, hcc, HST.out, .inl rfl, fun _ => rfl, by rw [HDV.out]; exact HI9.out⟩
              case measure => rw [rparLeft_of HI9.out.post.par, HPL.out]; exact HML.out
            | false =>
              have h0t := Lib.hid h1
              have HI2 := Lib.hid hI3
              clear h1 hI3
              go_wp2_with fail
              have hsg := ris_calls P g cap l τ 1 cRoot _ HI2.out.post.par
              refine hsg.mono ?_
              rintro e w6 ⟨rfl, hB3⟩
              have hI3 := HI2.out.step hP0 hO0 (RPost.of_below HI2.out.post.par hB3)
              clear hB3 hsg
              cases h1 : isT l 1 cRoot τ with
              | true =>
                have HDS : declS l τ = wantS l cSemi (nameS l false (goS τ)) := by rw [declS, if_neg (by rw [h0s.out]; simp), if_neg (by rw [h0t.out]; simp), if_pos h1]
                have HDV : declV l τ r = ⟨r.structs, r.enums, r.roots ++ [nameV l false (goS τ)]⟩ := by rw [declV, if_neg (by rw [h0s.out]; simp), if_neg (by rw [h0t.out]; simp), if_pos h1]
                have HFI := Lib.hid (fit_go HE.out hI3.post.par.fit (by rw [(isT_kind h1).2.1]; decide))
                have hbP := hI3.post.par.blk
                have p1' : w6.cell? ⟨P, 1, none⟩ = some (.int .i64 (τ.a : Int)) := by rw [blk_cell hbP]; rfl
                have y1' : w6.frozen? ⟨P, 1, none⟩ = false := blk_frozen hbP _
                have lPg : P < w6.heap.size := blk_lt hbP
                have ha1 : (τ.a : Int) ≤ 100000 := by have := hI3.post.par.fit; have := hI3.post.par.small; omega
                have HI4 := Lib.hid (hI3.step hP0 hO0 (rpar_go hI3.post.par HFI.out))
                obtain ⟨υ, hυ⟩ : ∃ υ, goS τ = υ := ⟨_, rfl⟩
                rw [hυ] at HI4 HDS HDV
                have HDS := Lib.hid HDS
                have HDV := Lib.hid HDV
                clear hbP h1 hI3 hυ
                go_wp2_with fail
                refine (rname_calls P g cap l υ false _ HI4.out.post.par).mono ?_
                rintro e w5 ⟨rfl, hp5⟩
                have hI5 := HI4.out.step hP0 hO0 hp5
                obtain ⟨av, cv, hav⟩ := own_len hI5.ro
                subst hav
                obtain ⟨X, hX⟩ : ∃ X : Tok, nameV l false υ = X := ⟨_, rfl⟩
                obtain ⟨ζ, hζ⟩ : ∃ ζ, nameS l false υ = ζ := ⟨_, rfl⟩
                rw [hX] at HDV ⊢
                rw [hζ] at HDS hI5
                have HI5 := Lib.hid hI5
                clear hp5 hX hζ hI5 p1' y1' lPg ha1
                simp only [tokA]
                have c0 : w5.cell? ⟨O, 2, none⟩ = some (.slice av r.roots.length cv) := by rw [blk_cell HI5.out.out]; rfl
                have c0a : _ = some (Value.slice av r.roots.length cv) := blk_cell (blk_alloc HI5.out.out (Obj.cells #[.int .i64 X.kind, .string X.text, .int .i64 (X.pos : Int)] 102 (0, 0))) 2
                have lO5 := blk_lt HI5.out.out
                have hown5 := HI5.out.ro
                have HON := Lib.hid HI5.out.ro.lt
                have HIa := Lib.hid (HI5.out.step hP0 hO0 (RPost.of_below HI5.out.post.par (below1 w5 (Obj.cells #[.int .i64 X.kind, .string X.text, .int .i64 (X.pos : Int)] 102 (0, 0)))))
                go_wp2_with (at_builtin; refine wpList_append_lies _ rfl _ _ 24 rfl (O + 1) 102 it _ 3 32 Tryd.underlying24 hit ht0 ht1 ht2 rfl (by decide) _ _ _ rfl ((hown5.alloc _).alloc _) ⟨w5.heap.size + 1, 0, none⟩ 1 1 [.int .i64 X.kind, .string X.text, .int .i64 (X.pos : Int)] rfl rfl (news_three _ _ _ _ _ _) (by simp [Value.oneCell']) (by decide) (by unfold maxLen; omega) (by omega) (by simp; omega) _ rfl ?_)
                intro g2 cap2 w8 hown8 hgr8 hat8 hlt8
                have hO8 : w8.heap[O]? = _ := (hgr8.block O (by simp; omega) (fun e => by have := (HON.out O e.symm).1; omega)).trans (blk_alloc (blk_alloc HI5.out.out _) _)
                have c8 : w8.cell? ⟨O, 2, none⟩ = some (.slice av r.roots.length cv) := (blk_cell hO8 2).trans rfl
                have d8 : w8.frozen? ⟨O, 2, none⟩ = false := blk_frozen hO8 _
                have lO8 : O < w8.heap.size := blk_lt hO8
                have HI9 := Lib.hid (rall_root_app HIa.out hP0 hg0 hO0 X hgr8 (by simpa using hat8) hown8)
                clear hown8 hgr8 hat8 c0 c0a hO8 hown5
                go_wp2_with fail
                refine (rwant_calls P g cap l ζ cSemi _ HI9.out.post.par).mono ?_
                rintro e w9 ⟨rfl, hp9⟩
                have hIx := HI9.out.step hP0 hO0 hp9
                rw [← HDS.out] at hIx
                have HIx := Lib.hid hIx
                clear hp9 hIx
                go_wp2_with fail
                go_roundw
                case rel => exact ⟨f', _, _, _, _, _, _, _, _, _, hff, hcc, HST.out, .inl rfl, fun _ => rfl, by rw [HDV.out]; exact HIx.out⟩
                case measure => rw [rparLeft_of HIx.out.post.par, HPL.out]; exact HML.out
              | false =>
                have HDS := Lib.hid (show declS l τ = failS l 11 τ by rw [declS, if_neg (by rw [h0s.out]; simp), if_neg (by rw [h0t.out]; simp), if_neg (by rw [h1]; simp)])
                have HDV := Lib.hid (show declV l τ r = r by rw [declV, if_neg (by rw [h0s.out]; simp), if_neg (by rw [h0t.out]; simp), if_neg (by rw [h1]; simp)])
                have HI3 := Lib.hid hI3
                clear h1 hI3
                go_wp2_with fail
                refine (rbad_calls P g cap l τ 11 _ HI3.out.post.par).mono ?_
                rintro e w9 ⟨rfl, hp9⟩
                have hIx := HI3.out.step hP0 hO0 hp9
                rw [← HDS.out] at hIx
                have HIx := Lib.hid hIx
                clear hp9 hIx
                go_wp2_with fail
                go_roundw
                case rel => exact ⟨f', _, _, _, _, _, _, _, _, _, hff, hcc, HST.out, .inl rfl, fun _ => rfl, by rw [HDV.out]; exact HIx.out⟩
                case measure => rw [rparLeft_of HIx.out.post.par, HPL.out]; exact HML.out
      · have b0 : (τ.c == 0) = false := by rw [beq_eq_false_iff_ne]; exact h0
        have b1 : (τ.c != 0) = true := by rw [bne_iff_ne]; exact h0
        have HR := Lib.hid (show allR l = (r', τ') by rw [hs.out, allLoop_stop (fun h => h0 (by rw [hq.out.c]; exact h.1))])
        have HQ := Lib.hid (show parseI s = .error (τ.c, τ.p) by rw [HP.out, rawOf, HR.out, hq.out.c, hq.out.p]; exact if_neg (by rw [← hq.out.c]; exact h0))
        have hI2 := hI.out
        clear h0 hpar
        rename World => w2
        have hO2 := hI2.out
        obtain ⟨avs, cvs, rfl⟩ := own_len hI2.so
        obtain ⟨ave, cve, rfl⟩ := own_len hI2.eo
        obtain ⟨avr, cvr, rfl⟩ := own_len hI2.ro
        have o0 : w2.cell? ⟨O, 0, none⟩ = some (.slice avs r.structs.length cvs) := by rw [blk_cell hO2]; rfl
        have o1 : w2.cell? ⟨O, 1, none⟩ = some (.slice ave r.enums.length cve) := by rw [blk_cell hO2]; rfl
        have o2 : w2.cell? ⟨O, 2, none⟩ = some (.slice avr r.roots.length cvr) := by rw [blk_cell hO2]; rfl
        have hR2 := blk_grown HRES.out hI2.post.grown (by omega)
        have r0 : w2.cell? ⟨R, 0, none⟩ = some (.slice none 0 0) := by rw [blk_cell hR2]; rfl
        have r1 : w2.cell? ⟨R, 1, none⟩ = some (.slice none 0 0) := by rw [blk_cell hR2]; rfl
        have r2 : w2.cell? ⟨R, 2, none⟩ = some (.slice none 0 0) := by rw [blk_cell hR2]; rfl
        have z0 : w2.frozen? ⟨R, 0, none⟩ = false := blk_frozen hR2 _
        have z1 : w2.frozen? ⟨R, 1, none⟩ = false := blk_frozen hR2 _
        have z2 : w2.frozen? ⟨R, 2, none⟩ = false := blk_frozen hR2 _
        have hbP := hI2.post.par.blk
        have p2' : w2.cell? ⟨P, 2, none⟩ = some (.int .i64 τ.c) := by rw [blk_cell hbP]; rfl
        have p3' : w2.cell? ⟨P, 3, none⟩ = some (.int .i64 (τ.p : Int)) := by rw [blk_cell hbP]; rfl
        have lPx : P < w2.heap.size := blk_lt hbP
        have lOx : O < w2.heap.size := blk_lt hO2
        have lRx : R < w2.heap.size := blk_lt hR2
        have HI2 := Lib.hid hI2
        have HB3 := Lib.hid (HB0.out.grown hI2.post.grown (by omega) (fun k e => by have e2 := Option.some.inj e; omega))
        clear hI2 hO2 hR2 hbP
        go_wp2_with fail
        go_region
        all_goals go_wp2_with fail
        all_goals refine bodyPost_ret (v := .tuple #[.agg #[.slice none 0 0, .slice none 0 0, .slice none 0 0], .int .i64 τ.c, .int .i64 (τ.p : Int)]) (by simp [results, Tryd.results51, go_sem, *]) rfl ?_
        all_goals unfold RefParsePost
        all_goals rw [HQ.out]
        all_goals have hB := HB3.out
        all_goals exact ⟨by (repeat' (first | (with_reducible exact Below.refl _ _) | (with_reducible assumption) | (with_reducible refine below_drewN ?_ _) | (with_reducible refine Below.alloc ?_ ?_ _) | (with_reducible refine Below.drew ?_) | (with_reducible refine Below.setCell ?_ ?_ _) | (with_reducible refine Below.trans ?_ (Below.mono (by assumption) ?_)) | go_size)), rfl⟩

end Go.Proofs.YtgoaiokpnifhfaaDoor
