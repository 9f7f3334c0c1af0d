/-
  transomhand05.Made: what the worlds are while structs and fields are made; a number of any kind.
-/
import Derived.Test.YtejpjclbeogajaaDoorMadeBad
import Derived.Deep.RegionHeld3
namespace Go.Proofs.YtejpjclbeogajaaDoor
open Go.RowKit
set_option linter.unusedVariables false
set_option linter.unusedSimpArgs false

theorem conv_byte2 (w : World) (x y : Int) (T : TypeId) (W : World) (hW : W.heap[w.heap.size]? = some (.cells #[.int .u8 x, .int .u8 y] T (0, 0))) :
    (convert 22 9 (.slice (some ⟨w.heap.size, 0, none⟩) 2 2)).run Tryd.prog W = .ok (.string (bytesStr [x, y])) W := by
  have h := conv_bytes W w.heap.size 0 2 [x, y] (fun j hj => by
    have h0 : j = 0 ∨ j = 1 := by simp at hj; omega
    rw [blk_cell hW]
    rcases h0 with rfl | rfl <;> rfl)
  simpa using h

theorem news_one (w : World) (o : Obj) (v : Value) (T : TypeId) : ∀ j u, [v][j]? = some u → ((w.alloc o).alloc (.cells #[v] T)).cell? ((⟨w.heap.size + 1, 0, none⟩ : Addr).add j) = some u := by
  intro j u hu
  have h := cell_one_new (w.alloc o) v T j u hu
  simpa using h

/-- a row that is owned fits in its room -/
theorem own_cap {w : World} {base : Nat} {e : TypeId} {sz n c m : Nat} {a : Option Addr} {xs : List Value} (h : w.ownsRow base e sz (.slice a n c) m xs) : m ≤ c := by
  rcases h.2 with ⟨h1, rfl⟩ | ⟨b, cap, cur, hv, hb, hg, hc, _⟩
  · exact Nat.zero_le _
  · injection hv with _ _ h3
    omega
theorem Held.step {K : World → Nat → Prop} (hK : LocalTo K) {w w' : World} {O : Nat} {row row' : Option Nat} {n : Nat} {v : Value} (h : Held K w O row n v)
    (hblk : ∀ b, b < w.heap.size → O < b → some b ≠ row → w'.heap[b]? = w.heap[b]?) (hsz : w.heap.size ≤ w'.heap.size) (hrow : ∀ b, b < w.heap.size → some b ≠ row → some b ≠ row') : Held K w' O row' n v := by
  obtain ⟨b, c, hv, hl, hO, hr, hk⟩ := h
  exact ⟨b, c, hv, Nat.lt_of_lt_of_le hl hsz, hO, hrow b hl hr, hK w w' b (hblk b hl hO hr) hk⟩

theorem strs_of_owned {w : World} {base g c n : Nat} {e : TypeId} (f : Nat → ByteArray) (h : w.ownsRow base e 1 (.slice (some ⟨g, 0, none⟩) n c) n ((List.range n).map fun j => .string (f j))) : StrsRow w g ((List.range n).map f) := by
  intro j hj
  have hj' : j < n := by simpa using hj
  have := h.cells (g := g) rfl j (.string (f j)) (by simp [hj'])
  rw [Addr.add_lit, Nat.zero_add] at this
  rw [this]
  unfold sget
  rw [getElem!_pos _ j hj]
  simp

theorem flat_succ {α : Type} (i : Nat) (f : Nat → List α) : (List.range (i + 1)).flatMap f = (List.range i).flatMap f ++ f i := by
  rw [List.range_succ, List.flatMap_append]; simp

/-- a cell of rows of one length, one behind the other -/
theorem flat_get {α : Type} (m : Nat) (f : Nat → List α) (hf : ∀ j, (f j).length = m) (n j : Nat) (hj : j < n) (t : Nat) (ht : t < m) : ((List.range n).flatMap f)[j * m + t]? = (f j)[t]? := by
  have hlen : ∀ n, ((List.range n).flatMap f).length = n * m := fun n => by
    induction n with
    | zero => simp
    | succ n ih => rw [flat_succ, List.length_append, ih, hf, Nat.succ_mul]
  induction n with
  | zero => omega
  | succ n ih =>
    rw [flat_succ]
    by_cases h : j < n
    · have h1 : (j + 1) * m ≤ n * m := Nat.mul_le_mul_right m (by omega)
      rw [Nat.succ_mul] at h1
      rw [List.getElem?_append_left (by rw [hlen]; omega)]
      exact ih h
    · obtain rfl : j = n := by omega
      rw [List.getElem?_append_right (by rw [hlen]; omega), hlen]
      congr 1; omega

/-- the world while an enum's names are made: C: the enum's own block -/
structure NInv (wo wi : World) (nm : ByteArray) (vn : Value) (k C : Nat) : Prop where
  below : Below wo.heap.size wo wi
  c : wi.heap[C]? = some (.cells #[.string nm, vn] 85 (0, 0))
  own : wi.ownsRow (C + 1) 9 1 vn k ((List.range k).map fun j => .string (valName j))
  d : wo.heap.size ≤ C

/-- the world while the structs are made; w0: the world behind the enums -/
structure SInv (w w0 wr : World) (p : PlanD) (vS vE : Value) (i O : Nat) (vf : Nat → Value) : Prop where
  below : Below w.heap.size w wr
  os : wr.os = w0.os
  tape : wr.tape = w0.tape
  output : wr.output = w0.output
  old : ∀ b, b < w0.heap.size → b ≠ O → wr.heap[b]? = w0.heap[b]?
  sz : w0.heap.size ≤ wr.heap.size
  o : wr.heap[O]? = some (.cells #[vS, vE, .int .i64 (p.root % (p.structs.length : Int))] 32 (0, 0))
  own : wr.ownsRow w0.heap.size 82 2 vS i ((List.range i).flatMap fun j => [.string (nameOf 83 j), vf j])
  held : ∀ j, j < i → Held (fun w b => FieldsRow w b (madeFields p j (psget p.structs j))) wr O vS.ownBlock (psget p.structs j).length (vf j)

/-- the world while a struct's fields are made; RB: the struct's own block -/
structure FInv (wo wi : World) (p : PlanD) (si : Nat) (l : List PField) (nm : ByteArray) (vF : Value) (k RB : Nat) : Prop where
  below : Below wo.heap.size wo wi
  r : wi.heap[RB]? = some (.cells #[.string nm, vF] 82 (0, 0))
  own : wi.ownsRow (RB + 1) 79 5 vF k ((List.range k).flatMap fun j => (madeField p si j (pfget l j)).cells)
  d : wo.heap.size ≤ RB

theorem FInv.step {wo W w1 : World} {p : PlanD} {si : Nat} {l : List PField} {nm : ByteArray} {vF : Value} {k RB g cap : Nat} {f : FField} {T : TypeId} (h : FInv wo W p si l nm vF k RB) (hm : madeField p si k (pfget l k) = f)
    (hgr : (W.alloc (.cells #[.string f.name, .int .u8 f.kind, .int .i64 f.ref, .int .i64 f.lists, .int .u64 f.df] T (0, 0))).grownBy w1 vF.ownBlock) (hR : w1.heap[RB]? = some (.cells #[.string nm, vF] 82 (0, 0)))
    (hown : w1.ownsRow (RB + 1) 79 5 (.slice (some ⟨g, 0, none⟩) (k + 1) cap) (k + 1) (((List.range k).flatMap fun j => (madeField p si j (pfget l j)).cells) ++ [.string f.name, .int .u8 f.kind, .int .i64 f.ref, .int .i64 f.lists, .int .u64 f.df])) :
    FInv wo (w1.setCell ⟨RB, 1, none⟩ (.slice (some ⟨g, 0, none⟩) (k + 1) cap)) p si l nm (.slice (some ⟨g, 0, none⟩) (k + 1) cap) (k + 1) RB := by
  have hsz := h.below.size
  have hd := h.d
  refine ⟨?_, ?_, ?_, hd⟩
  · refine Below.setCell (Below.grown (h.below.alloc (by omega) _) hgr (by simp; omega) (fun k e => ?_)) (by simp; omega) _
    have := (h.own.lt k e).1
    omega
  · rw [blk_set hR]; rfl
  · refine ownsRow_setCell_below ?_ (by simp) _
    rw [flat_succ, hm]
    exact hown

theorem SInv.step {w w0 wo wr w2 : World} {p : PlanD} {vS vE : Value} {i O g2 cap2 gf cf n : Nat} {vf : Nat → Value} {nm : ByteArray} (hJ : SInv w w0 wo p vS vE i O vf) (hbb : Below wo.heap.size wo wr)
    (hn : (psget p.structs i).length = n) (hcf : n ≤ cf) (hgf1 : wo.heap.size ≤ gf) (hgf2 : gf < wr.heap.size) (hrow : FieldsRow wr gf (madeFields p i (psget p.structs i))) (hnm : nameOf 83 i = nm) (hO : O < w0.heap.size) (hOw : w.heap.size < O)
    (hgr : (wr.alloc (.cells #[.string nm, .slice (some ⟨gf, 0, none⟩) n cf] 82 (0, 0))).grownBy w2 vS.ownBlock) (hat : vS.ownBlock = some g2 ∨ g2 = wr.heap.size + 1)
    (hO2 : w2.heap[O]? = some (.cells #[vS, vE, .int .i64 (p.root % (p.structs.length : Int))] 32 (0, 0)))
    (hown : w2.ownsRow w0.heap.size 82 2 (.slice (some ⟨g2, 0, none⟩) (i + 1) cap2) (i + 1) (((List.range i).flatMap fun j => [.string (nameOf 83 j), vf j]) ++ [.string nm, .slice (some ⟨gf, 0, none⟩) n cf])) :
    SInv w w0 (w2.setCell ⟨O, 0, none⟩ (.slice (some ⟨g2, 0, none⟩) (i + 1) cap2)) p (.slice (some ⟨g2, 0, none⟩) (i + 1) cap2) vE (i + 1) O (fun j => if j = i then .slice (some ⟨gf, 0, none⟩) n cf else vf j) := by
  have hrowlt : ∀ g, vS.ownBlock = some g → w0.heap.size ≤ g ∧ g < wo.heap.size := hJ.own.lt
  have hsw := hJ.below.size
  have hsz0 := hJ.sz
  have hbs := hbb.size
  have hz2 : wr.heap.size + 1 ≤ w2.heap.size := by have := hgr.size; simpa using this
  have hold : ∀ b, b < wo.heap.size → some b ≠ vS.ownBlock → w2.heap[b]? = wo.heap[b]? := fun b hb hn => (hgr.block b (by simp; omega) hn).trans ((Below.heap_alloc _ _ _ (by omega)).trans (hbb.block b hb))
  have hbel : Below w.heap.size w w2 := Below.grown ((hJ.below.trans (hbb.mono hsw)).alloc (by omega) _) hgr (by simp; omega) (fun k e => by have := (hrowlt k e).1; omega)
  refine ⟨hbel.setCell (by simp; omega) _, (hgr.os.trans hbb.os).trans hJ.os, (hgr.tape.trans hbb.tape).trans hJ.tape, (hgr.output.trans hbb.output).trans hJ.output, ?_, by simp [World.setCell]; omega, ?_, ?_, ?_⟩
  · intro b hb hne
    rw [Below.heap_setCell _ _ _ _ (by simpa using hne)]
    exact (hold b (by omega) (fun e => by have := (hrowlt b e.symm).1; omega)).trans (hJ.old b hb hne)
  · rw [blk_set hO2]; rfl
  · refine ownsRow_setCell_below ?_ (by simp; omega) _
    rw [flat_succ]
    have e1 : ((List.range i).flatMap fun j => [Value.string (nameOf 83 j), if j = i then .slice (some ⟨gf, 0, none⟩) n cf else vf j]) = (List.range i).flatMap fun j => [Value.string (nameOf 83 j), vf j] := by
      rw [List.flatMap_def, List.flatMap_def]
      congr 1
      apply List.map_congr_left
      intro j hj
      have : j ≠ i := by have := List.mem_range.1 hj; omega
      simp [this]
    rw [e1]
    simp only [if_true, hnm]
    exact hown
  · intro j hj
    by_cases hji : j = i
    · subst hji
      simp only [if_true]
      refine ⟨gf, cf, ⟨by rw [hn], by rw [hn]; exact hcf⟩, ?_, by omega, ?_, ?_⟩
      · simp [World.setCell]; omega
      · intro e
        rcases hat with h | h
        · have := (hrowlt g2 h).2; simp [Value.ownBlock] at e; omega
        · simp [Value.ownBlock] at e; omega
      · refine fields_local _ wr _ gf ?_ hrow
        rw [Below.heap_setCell _ _ _ _ (by simp; omega)]
        exact (hgr.block gf (by simp; omega) (fun e => by have := (hrowlt gf e.symm).2; omega)).trans (Below.heap_alloc _ _ _ hgf2)
    · simp only [if_neg hji]
      refine (hJ.held j (by omega)).step (fields_local _) (fun b hb hOb hne => ?_) (by simp [World.setCell]; omega) (fun b hb hne e => ?_)
      · rw [Below.heap_setCell _ _ _ _ (by simp; omega)]
        exact hold b hb hne
      · simp [Value.ownBlock] at e
        rcases hat with h | h
        · exact hne (by rw [h, e])
        · omega

/-- the world while a field's type is made; TB: the type's own block -/
structure TW (wo wi : World) (p : PlanD) (si : Nat) (l : List PField) (nm : ByteArray) (vF : Value) (k RB TB : Nat) (kd rf ls : Int) : Prop where
  f : FInv wo wi p si l nm vF k RB
  t : wi.heap[TB]? = some (.cells #[.int .u8 kd, .int .i64 rf, .int .i64 ls] 49 (0, 0))
  tb : RB < TB
  lt : ∀ g, vF.ownBlock = some g → g < TB

theorem TW.start {wo wi : World} {p : PlanD} {si : Nat} {l : List PField} {nm : ByteArray} {vF : Value} {k RB : Nat} (h : FInv wo wi p si l nm vF k RB) (kd rf ls : Int) :
    TW wo ((wi.alloc (.cells #[.int .u8 kd, .int .i64 rf, .int .i64 ls] 49 (0, 0))).drew) p si l nm vF k RB wi.heap.size kd rf ls := by
  have hs := h.below.size
  exact ⟨⟨(h.below.alloc hs _).drew, blk_alloc h.r _, (h.own.alloc _).drew, h.d⟩, blk_new _ _, blk_lt h.r, fun g hg => (h.own.lt g hg).2⟩

theorem TW.drew {wo wi : World} {p : PlanD} {si : Nat} {l : List PField} {nm : ByteArray} {vF : Value} {k RB TB : Nat} {kd rf ls : Int} (h : TW wo wi p si l nm vF k RB TB kd rf ls) : TW wo wi.drew p si l nm vF k RB TB kd rf ls :=
  ⟨⟨h.f.below.drew, h.f.r, h.f.own.drew, h.f.d⟩, h.t, h.tb, h.lt⟩

theorem TW.put {wo wi : World} {p : PlanD} {si : Nat} {l : List PField} {nm : ByteArray} {vF : Value} {k RB TB : Nat} {kd rf ls : Int} (h : TW wo wi p si l nm vF k RB TB kd rf ls) (j : Nat) (v : Value) (kd' rf' : Int)
    (e : (#[Value.int .u8 kd, .int .i64 rf, .int .i64 ls] : Array Value).setIfInBounds j v = #[.int .u8 kd', .int .i64 rf', .int .i64 ls]) : TW wo (wi.setCell ⟨TB, j, none⟩ v) p si l nm vF k RB TB kd' rf' ls := by
  have hd := h.f.d
  have ht := h.tb
  have hlt := h.lt
  refine ⟨⟨h.f.below.setCell (by simp; omega) _, blk_set_ne h.f.r _ (by simp; omega) _, ownsRow_at h.f.own (fun g hg => Below.heap_setCell _ _ _ _ (by have := hlt g hg; simp; omega)), h.f.d⟩, ?_, h.tb, h.lt⟩
  rw [blk_set h.t, e]

theorem TW.below {wo wi W : World} {p : PlanD} {si : Nat} {l : List PField} {nm : ByteArray} {vF : Value} {k RB TB : Nat} {kd rf ls : Int} (h : TW wo wi p si l nm vF k RB TB kd rf ls) (hb : Below wi.heap.size wi W) : TW wo W p si l nm vF k RB TB kd rf ls :=
  ⟨⟨h.f.below.trans (hb.mono h.f.below.size), blk_below h.f.r hb (blk_lt h.f.r), ownsRow_at h.f.own (fun g hg => hb.block g (Nat.lt_trans (h.lt g hg) (blk_lt h.t))), h.f.d⟩, blk_below h.t hb (blk_lt h.t), h.tb, h.lt⟩

/-- behind it: the field's own block FB -/
structure FW (wo wi : World) (p : PlanD) (si : Nat) (l : List PField) (nm : ByteArray) (vF : Value) (k RB TB FB : Nat) (lb : ByteArray) (kd rf ls df : Int) : Prop where
  t : TW wo wi p si l nm vF k RB TB kd rf ls
  f : wi.heap[FB]? = some (.cells #[.string lb, .int .u8 kd, .int .i64 rf, .int .i64 ls, .int .u64 df] 79 (0, 0))
  tb : TB < FB

theorem FW.start {wo wi : World} {p : PlanD} {si : Nat} {l : List PField} {nm : ByteArray} {vF : Value} {k RB TB : Nat} {kd rf ls : Int} (h : TW wo wi p si l nm vF k RB TB kd rf ls) (lb : ByteArray) :
    FW wo ((wi.alloc (.cells #[.string lb, .int .u8 kd, .int .i64 rf, .int .i64 ls, .int .u64 0] 79 (0, 0))).drew) p si l nm vF k RB TB wi.heap.size lb kd rf ls 0 :=
  ⟨(h.below (below1 _ _)).drew, blk_new _ _, blk_lt h.t⟩
theorem FW.start0 {wo wi : World} {p : PlanD} {si : Nat} {l : List PField} {nm : ByteArray} {vF : Value} {k RB TB : Nat} {kd rf ls : Int} (h : TW wo wi p si l nm vF k RB TB kd rf ls) (lb : ByteArray) :
    FW wo (wi.alloc (.cells #[.string lb, .int .u8 kd, .int .i64 rf, .int .i64 ls, .int .u64 0] 79 (0, 0))) p si l nm vF k RB TB wi.heap.size lb kd rf ls 0 :=
  ⟨h.below (below1 _ _), blk_new _ _, blk_lt h.t⟩
theorem FW.below {wo wi W : World} {p : PlanD} {si : Nat} {l : List PField} {nm : ByteArray} {vF : Value} {k RB TB FB : Nat} {lb : ByteArray} {kd rf ls df : Int} (h : FW wo wi p si l nm vF k RB TB FB lb kd rf ls df) (hb : Below wi.heap.size wi W) : FW wo W p si l nm vF k RB TB FB lb kd rf ls df :=
  ⟨h.t.below hb, blk_below h.f hb (blk_lt h.f), h.tb⟩
theorem FW.drew {wo wi : World} {p : PlanD} {si : Nat} {l : List PField} {nm : ByteArray} {vF : Value} {k RB TB FB : Nat} {lb : ByteArray} {kd rf ls df : Int} (h : FW wo wi p si l nm vF k RB TB FB lb kd rf ls df) : FW wo wi.drew p si l nm vF k RB TB FB lb kd rf ls df := ⟨h.t.drew, h.f, h.tb⟩
theorem FW.put {wo wi : World} {p : PlanD} {si : Nat} {l : List PField} {nm : ByteArray} {vF : Value} {k RB TB FB : Nat} {lb : ByteArray} {kd rf ls df : Int} (h : FW wo wi p si l nm vF k RB TB FB lb kd rf ls df) (df' : Int) : FW wo (wi.setCell ⟨FB, 4, none⟩ (.int .u64 df')) p si l nm vF k RB TB FB lb kd rf ls df' := by
  have hd := h.t.f.d
  have ht := h.t.tb
  have hf := h.tb
  have hlt := h.t.lt
  refine ⟨⟨⟨h.t.f.below.setCell (by simp; omega) _, blk_set_ne h.t.f.r _ (by simp; omega) _, ownsRow_at h.t.f.own (fun g hg => Below.heap_setCell _ _ _ _ (by have := hlt g hg; simp; omega)), h.t.f.d⟩, blk_set_ne h.t.t _ (by simp; omega) _, h.t.tb, h.t.lt⟩, ?_, h.tb⟩
  rw [blk_set h.f]; rfl

theorem TW.far {wo wi : World} {p : PlanD} {si : Nat} {l : List PField} {nm : ByteArray} {vF : Value} {k RB TB FB : Nat} {kd rf ls : Int} (h : TW wo wi p si l nm vF k RB TB kd rf ls) (hf : TB < FB) (j : Nat) (v : Value) : TW wo (wi.setCell ⟨FB, j, none⟩ v) p si l nm vF k RB TB kd rf ls := by
  have hd := h.f.d
  have ht := h.tb
  have hlt := h.lt
  exact ⟨⟨h.f.below.setCell (by simp; omega) _, blk_set_ne h.f.r _ (by simp; omega) _, ownsRow_at h.f.own (fun g hg => Below.heap_setCell _ _ _ _ (by have := hlt g hg; simp; omega)), h.f.d⟩, blk_set_ne h.t _ (by simp; omega) _, h.tb, h.lt⟩

/-- the field's block was made first, then the label; its five cells are written behind both -/
theorem FW.late {wo W1 wB : World} {p : PlanD} {si : Nat} {l : List PField} {nm : ByteArray} {vF : Value} {k RB TB : Nat} {kd rf ls : Int} (h : TW wo W1 p si l nm vF k RB TB kd rf ls) (lb : ByteArray) (n0 : ByteArray)
    (hB : Below ((W1.alloc (.cells #[.string n0, .int .u8 0, .int .i64 0, .int .i64 0, .int .u64 0] 79)).drew).heap.size ((W1.alloc (.cells #[.string n0, .int .u8 0, .int .i64 0, .int .i64 0, .int .u64 0] 79)).drew) wB) :
    FW wo (((((wB.setCell ⟨W1.heap.size, 0, none⟩ (.string lb)).setCell ⟨W1.heap.size, 1, none⟩ (.int .u8 kd)).setCell ⟨W1.heap.size, 2, none⟩ (.int .i64 rf)).setCell ⟨W1.heap.size, 3, none⟩ (.int .i64 ls)).setCell ⟨W1.heap.size, 4, none⟩ (.int .u64 0)) p si l nm vF k RB TB W1.heap.size lb kd rf ls 0 := by
  have hlt := blk_lt h.t
  have h2 := (h.below (below1 W1 (.cells #[.string n0, .int .u8 0, .int .i64 0, .int .i64 0, .int .u64 0] 79))).drew.below hB
  have hb : wB.heap[W1.heap.size]? = some (.cells #[.string n0, .int .u8 0, .int .i64 0, .int .i64 0, .int .u64 0] 79 (0, 0)) := blk_below (w := (W1.alloc (.cells #[.string n0, .int .u8 0, .int .i64 0, .int .i64 0, .int .u64 0] 79)).drew) (blk_new W1 _) hB (by simp)
  exact ⟨((((h2.far hlt _ _).far hlt _ _).far hlt _ _).far hlt _ _).far hlt _ _, by rw [blk_set (blk_set (blk_set (blk_set (blk_set hb _ _) _ _) _ _) _ _)]; rfl, hlt⟩

theorem news_five (w : World) (a b c d e : Value) (T : TypeId) : ∀ j u, [a, b, c, d, e][j]? = some u → (w.alloc (.cells #[a, b, c, d, e] T)).cell? ((⟨w.heap.size, 0, none⟩ : Addr).add j) = some u := by
  intro j u hu
  rw [Addr.add_lit, Nat.zero_add, blk_cell (blk_new w _)]
  simpa using hu

theorem alloc_keep {w : World} {a : Addr} {v : Value} {o : Obj} (h : w.cell? a = some v) : (w.alloc o).cell? a = some v := (World.cell?_alloc_some w a o (by rw [h]; rfl)).trans h

/-- a round's measure: omega, under a great context with implications, takes minutes -/
theorem meas_succ {n k : Nat} (h : k < n) : n - (k + 1) < n - k := by omega
theorem drew_keep {w : World} {a : Addr} {v : Value} (h : w.cell? a = some v) : w.drew.cell? a = some v := h
theorem setNew_keep {w : World} {b o j g : Nat} {v u : Value} (h : w.cell? ⟨b, o, none⟩ = some v) (hb : b < g) : (w.setCell ⟨g, j, none⟩ u).cell? ⟨b, o, none⟩ = some v := (World.cell?_setCell_far _ _ _ _ (by simp; omega)).trans h
theorem _root_.Go.Below.cell_keep {W w' : World} {b o : Nat} {v : Value} (hB : Below W.heap.size W w') (h : W.cell? ⟨b, o, none⟩ = some v) (hb : b < W.heap.size) : w'.cell? ⟨b, o, none⟩ = some v := (hB.cell (p := ⟨b, o, none⟩) hb).trans h

theorem rget_map (n : Nat) (f : Nat → FRecord) (j : Nat) (h : j < n) : rget ((List.range n).map f) j = f j := by
  unfold rget; rw [getElem!_pos _ j (by simpa using h)]; simp
theorem cget_map (n : Nat) (f : Nat → FChoice) (j : Nat) (h : j < n) : cget ((List.range n).map f) j = f j := by
  unfold cget; rw [getElem!_pos _ j (by simpa using h)]; simp

theorem kind_nz (kd : Int) (h : isNumB kd 0 = true) : 1 ≤ kd ∧ kd ≤ 10 := by
  simp only [isNumB, decide_true, Bool.true_and, decide_eq_true_eq] at h
  unfold kindSize at h
  split at h
  all_goals first | (constructor <;> omega) | (simp at h)

theorem isNum_lists (kd ls : Int) (h : isNumB kd ls = true) : ls = 0 := by
  simp only [isNumB, Bool.and_eq_true, decide_eq_true_eq] at h; exact h.1

/-- a number of any kind -/
theorem number_calls (vs : Value) (A : Option Addr) (ne ce : Nat) (names : Nat) (root kd rf ls n : Int) (hk : 1 ≤ kd ∧ kd ≤ 10) (h0 : 0 ≤ n) (h1 : n < 18446744073709551616) (w : World)
    (h10 : kd = 10 → ∃ (b o r : Nat) (vn : Option Addr) (cn : Nat), A = some ⟨b, o, none⟩ ∧ rf = (r : Int) ∧ r < ne ∧ 0 < names ∧ names < 1000 ∧ b < w.heap.size ∧ w.cell? ⟨b, o + r * 2 + 1, none⟩ = some (.slice vn names cn)) :
    Calls Tryd.prog 31 #[.agg #[vs, .slice A ne ce, .int .i64 root], .agg #[.int .u8 kd, .int .i64 rf, .int .i64 ls], .int .u64 n] w fun e w' => e = .returned (.int .u64 (numberOf (names : Int) kd n)) ∧ Below w.heap.size w w' := by
  have hc : kd = 1 ∨ kd = 2 ∨ kd = 3 ∨ kd = 4 ∨ kd = 5 ∨ kd = 6 ∨ kd = 7 ∨ kd = 8 ∨ kd = 9 ∨ kd = 10 := by omega
  rcases hc with rfl | rfl | rfl | rfl | rfl | rfl | rfl | rfl | rfl | rfl
  · exact number1_calls vs A ne ce names root rf ls n h0 h1 w
  · exact number2_calls vs A ne ce names root rf ls n h0 h1 w
  · exact number3_calls vs A ne ce names root rf ls n h0 h1 w
  · exact number4_calls vs A ne ce names root rf ls n h0 h1 w
  · exact number5_calls vs A ne ce names root rf ls n h0 h1 w
  · exact number6_calls vs A ne ce names root rf ls n h0 h1 w
  · exact number7_calls vs A ne ce names root rf ls n h0 h1 w
  · exact number8_calls vs A ne ce names root rf ls n h0 h1 w
  · exact number9_calls vs A ne ce names root rf ls n h0 h1 w
  · obtain ⟨b, o, r, vn, cn, rfl, rfl, hr, hn0, hn1, hb, hc⟩ := h10 rfl
    exact number10_calls vs b o ne ce names vn cn root r ls n h0 h1 hr hn0 hn1 w hb hc

/-- a row of pairs that the call owns, as a slice -/
theorem own_pairs {w : World} {base : Nat} {e : TypeId} {v : Value} {n : Nat} (f g : Nat → Value) (h : w.ownsRow base e 2 v n ((List.range n).flatMap fun j => [f j, g j])) :
    ∃ a c, v = .slice a n c ∧ (0 < n → ∃ b, a = some ⟨b, 0, none⟩ ∧ base ≤ b ∧ b < w.heap.size ∧ ∀ j, j < n → w.cell? ⟨b, j * 2, none⟩ = some (f j) ∧ w.cell? ⟨b, j * 2 + 1, none⟩ = some (g j)) := by
  rcases h.2 with ⟨rfl, rfl⟩ | ⟨b, cap, cur, rfl, hb, hg, _, _, _, ht⟩
  · exact ⟨none, 0, rfl, fun h => absurd h (by omega)⟩
  · refine ⟨_, _, rfl, fun _ => ⟨b, rfl, hb, blk_lt hg, fun j hj => ?_⟩⟩
    have hq := flat_get 2 (fun j => [f j, g j]) (fun _ => rfl) n j hj
    have key : ∀ t, t < 2 → w.cell? ⟨b, j * 2 + t, none⟩ = [f j, g j][t]? := by
      intro t ht2
      rw [blk_cell hg, ← hq t ht2, ← ht, List.getElem?_take, if_pos (by omega)]
      simp
    exact ⟨key 0 (by omega), key 1 (by omega)⟩

/-- the same of rows of five cells -/
theorem own_fives {w : World} {base : Nat} {e : TypeId} {v : Value} {n : Nat} (f : Nat → FField) (h : w.ownsRow base e 5 v n ((List.range n).flatMap fun j => (f j).cells)) (hn : 0 < n) :
    ∃ b c, v = .slice (some ⟨b, 0, none⟩) n c ∧ base ≤ b ∧ b < w.heap.size ∧ FieldsRow w b ((List.range n).map f) := by
  rcases h.2 with ⟨_, rfl⟩ | ⟨b, cap, cur, rfl, hb, hg, _, _, _, ht⟩
  · omega
  · refine ⟨b, cap, rfl, hb, blk_lt hg, fun j hj => ?_⟩
    have hj' : j < n := by simpa using hj
    have hq := flat_get 5 (fun j => (f j).cells) (fun _ => rfl) n j hj'
    have key : ∀ t, t < 5 → w.cell? ⟨b, 0 + j * 5 + t, none⟩ = (f j).cells[t]? := by
      intro t ht2
      rw [blk_cell hg, ← hq t ht2, ← ht, List.getElem?_take, if_pos (by omega)]
      simp
    have hf : fget ((List.range n).map f) j = f j := by rw [fget_eq _ _ hj]; simp
    rw [hf]
    exact ⟨key 0 (by omega), key 1 (by omega), key 2 (by omega), key 3 (by omega), key 4 (by omega)⟩

theorem pairs_of_own {α : Type} (nm : α → ByteArray) (K : α → World → Nat → Prop) (len : α → Nat) (get : Nat → α) {w : World} {base : Nat} {e : TypeId} {v : Value} {n O : Nat} (names : Nat → ByteArray) (vf : Nat → Value)
    (hown : w.ownsRow base e 2 v n ((List.range n).flatMap fun j => [.string (names j), vf j])) (hn : ∀ j, j < n → names j = nm (get j)) (hh : ∀ j, j < n → Held (K (get j)) w O v.ownBlock (len (get j)) (vf j)) : PairsAt nm K len get w v n := by
  obtain ⟨a, c, rfl, h⟩ := own_pairs _ _ hown
  refine ⟨a, c, ⟨rfl, own_cap hown⟩, fun hn0 => ?_⟩
  obtain ⟨b, rfl, hb, hlt, hc⟩ := h hn0
  refine ⟨b, 0, rfl, hlt, fun i hi => ?_⟩
  obtain ⟨b', c', hv, hl, _, _, hk⟩ := hh i hi
  obtain ⟨h0, h1⟩ := hc i hi
  rw [hv.1] at h1
  rw [hn i hi] at h0
  refine ⟨b', c', ?_, ?_, ⟨hl, hv.2⟩, hk⟩
  · simpa using h0
  · simpa using h1

/-- what is handed back -/
theorem made_schema {w w0 wr W : World} {p : PlanD} {pv : Array Value} {vS vE : Value} {O : Nat} {vf ve : Nat → Value} (hI : EInv w w0 pv (p.root % (p.structs.length : Int)) vE p.enums p.enums.length O ve) (hJ : SInv w w0 wr p vS vE p.structs.length O vf)
    (hO : O < w0.heap.size) (hsz : W.heap.size = wr.heap.size) (hW : ∀ b, b ≠ w.heap.size + 1 → W.heap[b]? = wr.heap[b]?) : SchemaAt W (.agg #[vS, vE, .int .i64 (p.root % (p.structs.length : Int))]) (madeP p) := by
  have hd := hI.d
  have hsz0 := hJ.sz
  refine ⟨vS, vE, rfl, ?_, ?_⟩
  · have hl : (madeP p).structs.length = p.structs.length := by simp [madeP]
    unfold RecsAt
    rw [hl]
    refine pairs_of_own _ _ _ _ (O := O) (fun j => nameOf 83 j) vf (ownsRow_at hJ.own (fun g hg => hW g (by have := (hJ.own.lt g hg).1; omega))) (fun j hj => ?_) (fun j hj => ?_)
    · rw [madeP, rget_map _ _ _ hj]; rfl
    · have e : rget (madeP p).structs j = madeRecord p j := by rw [madeP, rget_map _ _ _ hj]
      rw [e]
      have := (hJ.held j hj).step (w' := W) (row' := vS.ownBlock) (fields_local _) (fun b hb hOb hne => hW b (by omega)) (by omega) (fun b hb hne => hne)
      have el : (madeRecord p j).fields.length = (psget p.structs j).length := by simp [madeRecord, madeFields]
      rw [el]; exact this
  · have hl : (madeP p).enums.length = p.enums.length := by simp [madeP]
    unfold ChoicesAt
    rw [hl]
    have hWE : ∀ b, b < w0.heap.size → O < b → W.heap[b]? = w0.heap[b]? := fun b hb hb2 => (hW b (by omega)).trans (hJ.old b hb (by omega))
    refine pairs_of_own _ _ _ _ (O := O) (fun j => nameOf 69 j) ve (ownsRow_at hI.own (fun g hg => hWE g (hI.own.lt g hg).2 (by have := (hI.own.lt g hg).1; omega))) (fun j hj => ?_) (fun j hj => ?_)
    · rw [madeP, cget_map _ _ _ hj]; rfl
    · have e : cget (madeP p).enums j = madeChoice p.enums j := by rw [madeP, cget_map _ _ _ hj]
      rw [e]
      exact (hI.held j hj).step (w' := W) (row' := vE.ownBlock) (strs_local _) (fun b hb hOb hne => hWE b hb hOb) (by omega) (fun b hb hne => hne)

end Go.Proofs.YtejpjclbeogajaaDoor
