/-
  Parts: SameRaw, SameRawW, Told04.
-/
import Derived.Test.YtgoaiokpnifhfaaDoorPkRefP8
import Derived.Test.YtgoaiokpnifhfaaDoorPkIdl10
import Derived.Test.YtgoaiokpnifhfaaDoorPkRefToks
import Derived.Test.YtgoaiokpnifhfaaDoorTail
import Derived.Deep.RegionHeld3

/-
  Two schemas as they are written, in memory: what the document's SameRaw reads.
-/
namespace Go.Proofs.YtgoaiokpnifhfaaDoor
open Go.RowKit
set_option linter.unusedVariables false
set_option linter.unusedSimpArgs false

theorem inner_at {β : Type} {w : World} {A : Nat → Prop} {n : β → Nat} {cs : β → List Value} (nm : β → ByteArray) (ps : β → Nat) : ∀ (bs : List β) (vs : List Value), InnersAt w A n cs bs vs → ∀ (i : Nat) (b : β), bs[i]? = some b →
    ∃ v, SliceAt w A v (n b) (cs b) ∧ (hdCells nm ps bs vs)[i * 3]? = some (.string (nm b)) ∧ (hdCells nm ps bs vs)[i * 3 + 1]? = some (.int .i64 (ps b : Int)) ∧ (hdCells nm ps bs vs)[i * 3 + 2]? = some v
  | [], [], _, i, b, hb => by simp at hb
  | x :: bs, v :: vs, h, 0, b, hb => by
    obtain rfl := Option.some.inj hb
    exact ⟨v, h.1, rfl, rfl, rfl⟩
  | x :: bs, v :: vs, h, i + 1, b, hb => by
    have hb2 : bs[i]? = some b := by simpa using hb
    obtain ⟨u, h0, h1, h2, h3⟩ := inner_at nm ps bs vs h.2 i b hb2
    refine ⟨u, h0, ?_⟩
    rw [show (i + 1) * 3 = i * 3 + 1 + 1 + 1 by omega]
    exact ⟨h1, h2, h3⟩
  | [], _ :: _, h, _, _, _ => h.elim
  | _ :: _, [], h, _, _, _ => h.elim
theorem fldCells_get (l : List RField) : ∀ (k : Nat) (f : RField), l[k]? = some f → ∀ t, t < 8 → (fldCells l)[k * 8 + t]? = (fldL f)[t]? := by
  induction l with
  | nil => intro k f h; simp at h
  | cons a l ih =>
    intro k f h t ht
    have e : fldCells (a :: l) = fldL a ++ fldCells l := rfl
    have hl : (fldL a).length = 8 := rfl
    cases k with
    | zero =>
      obtain rfl := Option.some.inj h
      rw [e, Nat.zero_mul, Nat.zero_add, List.getElem?_append_left (by rw [hl]; exact ht)]
    | succ k =>
      have h2 : l[k]? = some f := by simpa using h
      rw [e, List.getElem?_append_right (by rw [hl]; omega), hl, show (k + 1) * 8 + t - 8 = k * 8 + t by omega]
      exact ih k f h2 t ht

def rec0 : RRec := ⟨⟨#[]⟩, 0, []⟩
def cho0 : RChoice := ⟨⟨#[]⟩, 0, []⟩
def fld0 : RField := ⟨⟨#[]⟩, 0, ⟨⟨#[]⟩, 0, 0⟩, tok0⟩
def rx (r : RawD) (i : Nat) : RRec := (r.structs[i]?).getD rec0
def cx (r : RawD) (i : Nat) : RChoice := (r.enums[i]?).getD cho0
def fx (X : RRec) (k : Nat) : RField := (X.fields[k]?).getD fld0
theorem rx_mem {r : RawD} {i : Nat} (h : i < r.structs.length) : rx r i ∈ r.structs := by unfold rx; rw [List.getElem?_eq_getElem h]; exact List.getElem_mem h
theorem cx_mem {r : RawD} {i : Nat} (h : i < r.enums.length) : cx r i ∈ r.enums := by unfold cx; rw [List.getElem?_eq_getElem h]; exact List.getElem_mem h

/-- a field's cells -/
structure FldAt (w : World) (q k : Nat) (f : RField) : Prop where
  c0 : w.cell? ⟨q, k * 8, none⟩ = some (.string f.name)
  c1 : w.cell? ⟨q, k * 8 + 1, none⟩ = some (.int .i64 (f.pos : Int))
  c2 : w.cell? ⟨q, k * 8 + 2, none⟩ = some (.string f.ty.name)
  c3 : w.cell? ⟨q, k * 8 + 3, none⟩ = some (.int .i64 (f.ty.lists : Int))
  c4 : w.cell? ⟨q, k * 8 + 4, none⟩ = some (.int .i64 (f.ty.pos : Int))
  c5 : w.cell? ⟨q, k * 8 + 5, none⟩ = some (.int .i64 f.df.kind)
  c6 : w.cell? ⟨q, k * 8 + 6, none⟩ = some (.string f.df.text)
  c7 : w.cell? ⟨q, k * 8 + 7, none⟩ = some (.int .i64 (f.df.pos : Int))
/-- a struct's fields -/
def FldRow (w : World) (a : Option Addr) (X : RRec) : Prop := 0 < X.fields.length → ∃ q, a = some ⟨q, 0, none⟩ ∧ q < w.heap.size ∧ ∀ k, k < X.fields.length → FldAt w q k (fx X k)
theorem FldAt.below {w w' : World} {q k : Nat} {f : RField} (h : FldAt w q k f) (hb : Below w.heap.size w w') : FldAt w' q k f :=
  ⟨cell_kept h.c0 hb, cell_kept h.c1 hb, cell_kept h.c2 hb, cell_kept h.c3 hb, cell_kept h.c4 hb, cell_kept h.c5 hb, cell_kept h.c6 hb, cell_kept h.c7 hb⟩
theorem FldRow.below {w w' : World} {a : Option Addr} {X : RRec} (h : FldRow w a X) (hb : Below w.heap.size w w') : FldRow w' a X := fun h0 => by
  obtain ⟨q, e, hq, hc⟩ := h h0
  exact ⟨q, e, Nat.lt_of_lt_of_le hq hb.size, fun k hk => (hc k hk).below hb⟩
theorem fldRow_of {w : World} {A : Nat → Prop} {v : Value} {X : RRec} (h : SliceAt w A v (fldN X) (fldC X)) : ∃ a c, v = .slice a X.fields.length c ∧ FldRow w a X := by
  obtain ⟨a, c, rfl, h⟩ := h
  refine ⟨a, c, rfl, fun h0 => ?_⟩
  obtain ⟨q, ea, _, hq, hc⟩ := h h0
  refine ⟨q, ea, hq, fun k hk => ?_⟩
  have hg : X.fields[k]? = some (fx X k) := by unfold fx; rw [List.getElem?_eq_getElem hk]; rfl
  have hh := fun t ht => fldCells_get X.fields k (fx X k) hg t ht
  exact ⟨hc _ _ (hh 0 (by decide)), hc _ _ (hh 1 (by decide)), hc _ _ (hh 2 (by decide)), hc _ _ (hh 3 (by decide)), hc _ _ (hh 4 (by decide)), hc _ _ (hh 5 (by decide)), hc _ _ (hh 6 (by decide)), hc _ _ (hh 7 (by decide))⟩
theorem tokRow_of {w : World} {A : Nat → Prop} {v : Value} {l : List Tok} (h : SliceAt w A v l.length (tokCells l)) : ∃ a c, v = .slice a l.length c ∧ TokRow w a l := by
  obtain ⟨a, c, rfl, h⟩ := h
  refine ⟨a, c, rfl, fun h0 => ?_⟩
  obtain ⟨q, ea, _, hq, hc⟩ := h h0
  refine ⟨q, ea, fun k hk => ?_⟩
  have g := tokCells_get l k hk
  exact ⟨hc _ _ g.1, hc _ _ g.2.1, hc _ _ g.2.2⟩

/-- a schema's three slices -/
structure RawRows (w : World) (a1 a2 a3 : Option Addr) (r : RawD) : Prop where
  s : ∀ i, i < r.structs.length → ∃ q a c, a1 = some ⟨q, 0, none⟩ ∧ q < w.heap.size ∧ w.cell? ⟨q, i * 3, none⟩ = some (.string (rx r i).name) ∧ w.cell? ⟨q, i * 3 + 1, none⟩ = some (.int .i64 ((rx r i).pos : Int)) ∧ w.cell? ⟨q, i * 3 + 2, none⟩ = some (.slice a (rx r i).fields.length c) ∧ FldRow w a (rx r i)
  e : ∀ i, i < r.enums.length → ∃ q a c, a2 = some ⟨q, 0, none⟩ ∧ q < w.heap.size ∧ w.cell? ⟨q, i * 3, none⟩ = some (.string (cx r i).name) ∧ w.cell? ⟨q, i * 3 + 1, none⟩ = some (.int .i64 ((cx r i).pos : Int)) ∧ w.cell? ⟨q, i * 3 + 2, none⟩ = some (.slice a (cx r i).names.length c) ∧ TokRow w a (cx r i).names
  r : TokRow w a3 r.roots
theorem RawRows.below {w w' : World} {a1 a2 a3 : Option Addr} {r : RawD} (h : RawRows w a1 a2 a3 r) (hb : Below w.heap.size w w') : RawRows w' a1 a2 a3 r :=
  ⟨fun i hi => by
    obtain ⟨q, a, c, e, hq, h0, h1, h2, h3⟩ := h.s i hi
    exact ⟨q, a, c, e, Nat.lt_of_lt_of_le hq hb.size, cell_kept h0 hb, cell_kept h1 hb, cell_kept h2 hb, h3.below hb⟩,
  fun i hi => by
    obtain ⟨q, a, c, e, hq, h0, h1, h2, h3⟩ := h.e i hi
    exact ⟨q, a, c, e, Nat.lt_of_lt_of_le hq hb.size, cell_kept h0 hb, cell_kept h1 hb, cell_kept h2 hb, h3.below hb⟩, h.r.below hb⟩
theorem rawRows_of {w : World} {vs ve vr : Value} {r : RawD} (h : RawAt w vs ve vr r) : ∃ a1 c1 a2 c2 a3 c3, vs = .slice a1 r.structs.length c1 ∧ ve = .slice a2 r.enums.length c2 ∧ vr = .slice a3 r.roots.length c3 ∧ RawRows w a1 a2 a3 r := by
  obtain ⟨sl, el, ⟨a1, c1, rfl, h1⟩, ⟨a2, c2, rfl, h2⟩, h3, h4, h5⟩ := h
  obtain ⟨a3, c3, e3, h6⟩ := tokRow_of h3
  subst e3
  refine ⟨a1, c1, a2, c2, a3, c3, rfl, rfl, rfl, ⟨fun i hi => ?_, fun i hi => ?_, h6⟩⟩
  · obtain ⟨q, ea, _, hq, hc⟩ := h1 (by omega)
    have hg : r.structs[i]? = some (rx r i) := by unfold rx; rw [List.getElem?_eq_getElem hi]; rfl
    obtain ⟨v, hv, g0, g1, g2⟩ := inner_at RRec.name RRec.pos _ _ h4 i _ hg
    obtain ⟨a, c, rfl, hr⟩ := fldRow_of hv
    exact ⟨q, a, c, ea, hq, hc _ _ g0, hc _ _ g1, hc _ _ g2, hr⟩
  · obtain ⟨q, ea, _, hq, hc⟩ := h2 (by omega)
    have hg : r.enums[i]? = some (cx r i) := by unfold cx; rw [List.getElem?_eq_getElem hi]; rfl
    obtain ⟨v, hv, g0, g1, g2⟩ := inner_at RChoice.name RChoice.pos _ _ h5 i _ hg
    obtain ⟨a, c, rfl, hr⟩ := tokRow_of hv
    exact ⟨q, a, c, ea, hq, hc _ _ g0, hc _ _ g1, hc _ _ g2, hr⟩

/-! ### as many as there may be -/
structure RawBd (r : RawD) : Prop where
  s : r.structs.length ≤ 2049
  e : r.enums.length ≤ 2049
  o : r.roots.length ≤ 2049
  f : ∀ x ∈ r.structs, x.fields.length ≤ 2049
  n : ∀ x ∈ r.enums, x.names.length ≤ 2049
theorem serLoop_len {α : Type} (l : List Tok) (one : PS → PS) (val : PS → α) : ∀ (f : Nat) (σ : PS) (acc : List α), (serLoop l one val f σ acc).1.length ≤ acc.length + f := by
  intro f
  induction f with
  | zero => intro σ acc; simp [serLoop]
  | succ f ih =>
    intro σ acc
    simp only [serLoop]
    split
    · split
      · simp
      · have := ih (one σ) (acc ++ [val σ])
        simp only [List.length_append, List.length_cons, List.length_nil] at this
        omega
    · simp
theorem serR_len {α : Type} {l : List Tok} (one : PS → PS) (val : PS → α) (σ : PS) (hl : l.length ≤ 2048) : (serR l one val σ).1.length ≤ 2049 := by
  have := serLoop_len l one val (l.length + 1) (wantS l cOpen σ) []
  unfold serR
  simp only [List.length_nil] at this
  omega
theorem cntR_decl (l : List Tok) (σ : PS) (r : RawD) : cntR (declV l σ r) ≤ cntR r + 1 := declV_cnt l σ r
theorem all_bd (l : List Tok) (hl : l.length ≤ 2048) : ∀ (f : Nat) (σ : PS) (r : RawD), (∀ x ∈ r.structs, x.fields.length ≤ 2049) → (∀ x ∈ r.enums, x.names.length ≤ 2049) →
    cntR (allLoop l f σ r).1 ≤ cntR r + f ∧ (∀ x ∈ (allLoop l f σ r).1.structs, x.fields.length ≤ 2049) ∧ (∀ x ∈ (allLoop l f σ r).1.enums, x.names.length ≤ 2049) := by
  intro f
  induction f with
  | zero => intro σ r h1 h2; exact ⟨Nat.le_refl _, h1, h2⟩
  | succ f ih =>
    intro σ r h1 h2
    unfold allLoop
    split
    · have hd : (∀ x ∈ (declV l σ r).structs, x.fields.length ≤ 2049) ∧ (∀ x ∈ (declV l σ r).enums, x.names.length ≤ 2049) := by
        unfold declV
        split
        · refine ⟨fun x hx => ?_, h2⟩
          rcases List.mem_append.1 hx with e | e
          · exact h1 x e
          · obtain rfl := List.mem_singleton.1 e
            exact serR_len _ _ _ hl
        · split
          · refine ⟨h1, fun x hx => ?_⟩
            rcases List.mem_append.1 hx with e | e
            · exact h2 x e
            · obtain rfl := List.mem_singleton.1 e
              exact serR_len _ _ _ hl
          · split
            · exact ⟨h1, h2⟩
            · exact ⟨h1, h2⟩
      have h3 := ih (declS l σ) (declV l σ r) hd.1 hd.2
      have h4 := declV_cnt l σ r
      exact ⟨by omega, h3.2⟩
    · exact ⟨by show cntR r ≤ _; omega, h1, h2⟩
theorem parse_bd {s : ByteArray} {r : RawD} (h : parseI s = .ok r) : RawBd r := by
  unfold parseI at h
  cases ht : toks s sgI with
  | error x => rw [ht] at h; cases h
  | ok l =>
    rw [ht] at h
    simp only [rawOf] at h
    by_cases e : (allR l).2.c = 0
    · rw [if_pos e] at h
      cases h
      have h2 := toks_most ht
      have h1 := all_bd l h2 (l.length + 1) ⟨0, 0, 0⟩ ⟨[], [], []⟩ (by simp) (by simp)
      have h3 : cntR ⟨[], [], []⟩ = 0 := rfl
      have h4 := h1.1
      unfold cntR at h4 h3
      have e1 : (allR l).1 = (allLoop l (l.length + 1) ⟨0, 0, 0⟩ ⟨[], [], []⟩).1 := rfl
      rw [e1]
      exact ⟨by omega, by omega, by omega, h1.2.1, h1.2.2⟩
    · rw [if_neg e] at h; cases h

end Go.Proofs.YtgoaiokpnifhfaaDoor

/-
  The document's SameRaw: of one schema in two places it is true.
-/
namespace Go.Proofs.YtgoaiokpnifhfaaDoor
open Go.RowKit
set_option linter.unusedVariables false
set_option linter.unusedSimpArgs false

theorem two_below (w : World) (o1 o2 : Obj) : Below w.heap.size w ((w.alloc o1).alloc o2).drew := ((below1 w o1).alloc (by simp) o2).drew
theorem two_one (w : World) (c1 c2 : Array Value) (T : TypeId) : ((w.alloc (.cells c1 T (0, 0))).alloc (.cells c2 T (0, 0))).drew.heap[w.heap.size]? = some (.cells c1 T (0, 0)) := blk_alloc (blk_new w (.cells c1 T (0, 0))) _
theorem two_two (w : World) (c1 c2 : Array Value) (T : TypeId) : ((w.alloc (.cells c1 T (0, 0))).alloc (.cells c2 T (0, 0))).drew.heap[w.heap.size + 1]? = some (.cells c2 T (0, 0)) := by
  have := blk_new (w.alloc (.cells c1 T (0, 0))) (.cells c2 T (0, 0))
  rw [World.size_alloc] at this
  exact this
set_option maxHeartbeats 4000000 in
set_option maxRecDepth 100000 in
theorem sameRaw_calls (a1 a2 a3 b1 b2 b3 : Option Addr) (c1 c2 c3 d1 d2 d3 : Nat) (r : RawD) (hb : RawBd r) (w : World) (h1 : RawRows w a1 a2 a3 r) (h2 : RawRows w b1 b2 b3 r) :
    Calls Tryd.prog 52 #[.agg #[.slice a1 r.structs.length c1, .slice a2 r.enums.length c2, .slice a3 r.roots.length c3], .agg #[.slice b1 r.structs.length d1, .slice b2 r.enums.length d2, .slice b3 r.roots.length d3]] w fun e w' => e = .returned (.bool true) ∧ Below w.heap.size w w' := by
  have hn1 := hb.s
  have hn2 := hb.e
  have hn3 := hb.o
  have HBD := Lib.hid hb
  obtain ⟨W, hW⟩ : ∃ W, W = (w.alloc (Obj.cells #[.slice a1 r.structs.length c1, .slice a2 r.enums.length c2, .slice a3 r.roots.length c3] 116)).alloc (Obj.cells #[.slice b1 r.structs.length d1, .slice b2 r.enums.length d2, .slice b3 r.roots.length d3] 116) := ⟨_, rfl⟩
  have hbW : Below w.heap.size w W := by rw [hW]; exact (below1 _ _).alloc (by simp) _
  have hA : W.heap[w.heap.size]? = some (.cells #[.slice a1 r.structs.length c1, .slice a2 r.enums.length c2, .slice a3 r.roots.length c3] 116 (0, 0)) := by rw [hW]; exact blk_alloc (blk_new _ _) _
  have hB : W.heap[w.heap.size + 1]? = some (.cells #[.slice b1 r.structs.length d1, .slice b2 r.enums.length d2, .slice b3 r.roots.length d3] 116 (0, 0)) := by
    rw [hW]
    have := blk_new (w.alloc (Obj.cells #[.slice a1 r.structs.length c1, .slice a2 r.enums.length c2, .slice a3 r.roots.length c3] 116)) (Obj.cells #[.slice b1 r.structs.length d1, .slice b2 r.enums.length d2, .slice b3 r.roots.length d3] 116)
    rw [World.size_alloc] at this
    exact this
  obtain ⟨A, hAe⟩ : ∃ A, A = w.heap.size := ⟨_, rfl⟩
  obtain ⟨B, hBe⟩ : ∃ B, B = w.heap.size + 1 := ⟨_, rfl⟩
  rw [← hAe] at hA
  rw [← hBe] at hB
  have H1 := Lib.hid (h1.below hbW)
  have H2 := Lib.hid (h2.below hbW)
  have HA := Lib.hid hA
  have HB := Lib.hid hB
  have HBW := Lib.hid hbW
  have p2 : W.cell? ⟨A, 2, none⟩ = _ := (blk_cell hA 2).trans rfl
  have q2 : W.cell? ⟨B, 2, none⟩ = _ := (blk_cell hB 2).trans rfl
  have p0 : W.cell? ⟨A, 0, none⟩ = _ := (blk_cell hA 0).trans rfl
  have q0 : W.cell? ⟨B, 0, none⟩ = _ := (blk_cell hB 0).trans rfl
  have p1 : W.cell? ⟨A, 1, none⟩ = _ := (blk_cell hA 1).trans rfl
  have q1 : W.cell? ⟨B, 1, none⟩ = _ := (blk_cell hB 1).trans rfl
  have lA := blk_lt hA
  have lB := blk_lt hB
  clear h1 h2 hb hA hB hbW
  go_enter Tryd.func52, Tryd.ntmps52
  go_wp2_with fail
  rw [← hW, ← hBe, ← hAe]
  clear hW hAe hBe
  refine (sameToks_calls a3 b3 c3 d3 r.roots (by omega) _ H1.out.r H2.out.r).mono ?_
  rintro e w1 ⟨rfl, hB1⟩
  have HB1 := Lib.hid hB1
  clear hB1 p0 p1 p2 q0 q1 q2
  go_wp2_with fail
  go_loopw [5] (fun v5 wr => ∃ i : Nat, i ≤ r.structs.length ∧ v5 = .int .i64 (i : Int) ∧ Below W.heap.size W wr) (fun v5 _ => r.structs.length - (intOf v5).toNat)
  case atStart => exact ⟨0, by omega, rfl, HB1.out⟩
  case round =>
    obtain ⟨i, hi, rfl, hB⟩ := hrel
    have p0 : wr.cell? ⟨A, 0, none⟩ = _ := (blk_cell (blk_below HA.out hB lA) 0).trans rfl
    have q0 : wr.cell? ⟨B, 0, none⟩ = _ := (blk_cell (blk_below HB.out hB lB) 0).trans rfl
    have p1 : wr.cell? ⟨A, 1, none⟩ = _ := (blk_cell (blk_below HA.out hB lA) 1).trans rfl
    have q1 : wr.cell? ⟨B, 1, none⟩ = _ := (blk_cell (blk_below HB.out hB lB) 1).trans rfl
    have lAr : A < wr.heap.size := Nat.lt_of_lt_of_le lA hB.size
    have lBr : B < wr.heap.size := Nat.lt_of_lt_of_le lB hB.size
    by_cases hin : i < r.structs.length
    · obtain ⟨x, xa, xc, rfl, lx, x0, x1, x2, xf⟩ := (H1.out.below hB).s i hin
      obtain ⟨y, ya, yc, rfl, ly, y0, y1, y2, yf⟩ := (H2.out.below hB).s i hin
      have hxn := HBD.out.f _ (rx_mem hin)
      generalize rx r i = X at *
      have hiI : (i : Int) < (r.structs.length : Int) := by omega
      have hi2 : (i : Int) ≤ 2049 := by omega
      have HBr := Lib.hid hB
      have XF := Lib.hid xf
      have YF := Lib.hid yf
      clear hB xf yf
      go_upto_region 6 with (fail)
      go_cut [6, 7] (fun v6 v7 wc => ∃ P1 P2 : Nat, v6 = .pointer (some ⟨P1, 0, none⟩) ∧ v7 = .pointer (some ⟨P2, 0, none⟩) ∧ Below wr.heap.size wr wc ∧ wr.heap.size ≤ P1 ∧ wr.heap.size ≤ P2 ∧ wc.heap[P1]? = some (.cells #[.string X.name, .int .i64 (X.pos : Int), .slice xa X.fields.length xc] 121 (0, 0)) ∧ wc.heap[P2]? = some (.cells #[.string X.name, .int .i64 (X.pos : Int), .slice ya X.fields.length yc] 121 (0, 0)))
      case first =>
        go_region_held3 (fun w' => w'.cell? ⟨A, 0, none⟩ = some (.slice (some ⟨x, 0, none⟩) r.structs.length c1) ∧ w'.cell? ⟨B, 0, none⟩ = some (.slice (some ⟨y, 0, none⟩) r.structs.length d1) ∧ w'.cell? ⟨x, i * 3, none⟩ = some (.string X.name) ∧ w'.cell? ⟨x, i * 3 + 1, none⟩ = some (.int .i64 (X.pos : Int)) ∧ w'.cell? ⟨x, i * 3 + 2, none⟩ = some (.slice xa X.fields.length xc) ∧ w'.cell? ⟨y, i * 3, none⟩ = some (.string X.name) ∧ w'.cell? ⟨y, i * 3 + 1, none⟩ = some (.int .i64 (X.pos : Int)) ∧ w'.cell? ⟨y, i * 3 + 2, none⟩ = some (.slice ya X.fields.length yc)) (((try go_split_ands); refine ⟨?_, ?_, ?_, ?_, ?_, ?_, ?_, ?_⟩ <;> (first | (with_reducible assumption) | (with_reducible (refine alloc_keep ?_; assumption)) | go_keep))) (fail)
        all_goals (go_wp2_with fail; go_meet)
        all_goals (first | exact ⟨wr.heap.size, wr.heap.size + 1, rfl, rfl, two_below _ _ _, by omega, by omega, two_one _ _ _ _, two_two _ _ _ _⟩ | exact ⟨wr.heap.size + 1, wr.heap.size, rfl, rfl, two_below _ _ _, by omega, by omega, two_two _ _ _ _, two_one _ _ _ _⟩)
      obtain ⟨P1, P2, rfl, rfl, hBc, h1, h2, hb1, hb2⟩ := hcut
      have k0 : wc.cell? ⟨P1, 0, none⟩ = _ := (blk_cell hb1 0).trans rfl
      have k1 : wc.cell? ⟨P1, 1, none⟩ = _ := (blk_cell hb1 1).trans rfl
      have k2 : wc.cell? ⟨P1, 2, none⟩ = _ := (blk_cell hb1 2).trans rfl
      have m0 : wc.cell? ⟨P2, 0, none⟩ = _ := (blk_cell hb2 0).trans rfl
      have m1 : wc.cell? ⟨P2, 1, none⟩ = _ := (blk_cell hb2 1).trans rfl
      have m2 : wc.cell? ⟨P2, 2, none⟩ = _ := (blk_cell hb2 2).trans rfl
      have l1 := blk_lt hb1
      have l2 := blk_lt hb2
      have HC1 := Lib.hid hb1
      have HC2 := Lib.hid hb2
      have XF' := Lib.hid (XF.out.below hBc)
      have YF' := Lib.hid (YF.out.below hBc)
      have HBC := Lib.hid hBc
      clear hb1 hb2 hBc p0 p1 q0 q1 x0 x1 x2 y0 y1 y2 lAr lBr
      go_wp2_with fail
      go_loopw [8] (fun v8 wd => ∃ k : Nat, k ≤ X.fields.length ∧ v8 = .int .i64 (k : Int) ∧ Below wc.heap.size wc wd) (fun v8 _ => X.fields.length - (intOf v8).toNat)
      case atStart => exact ⟨0, by omega, rfl, Below.refl _ _⟩
      case round =>
        obtain ⟨k, hk, rfl, hBd⟩ := hrel
        rename World => wd
        have k2' : wd.cell? ⟨P1, 2, none⟩ = _ := (blk_cell (blk_below HC1.out hBd l1) 2).trans rfl
        have m2' : wd.cell? ⟨P2, 2, none⟩ = _ := (blk_cell (blk_below HC2.out hBd l2) 2).trans rfl
        have l1' : P1 < wd.heap.size := Nat.lt_of_lt_of_le l1 hBd.size
        have l2' : P2 < wd.heap.size := Nat.lt_of_lt_of_le l2 hBd.size
        by_cases hkn : k < X.fields.length
        · obtain ⟨g1, rfl, lg1, t1⟩ := (XF'.out.below hBd) (by omega)
          obtain ⟨g2, rfl, lg2, t2⟩ := (YF'.out.below hBd) (by omega)
          obtain ⟨s0, s1, s2, s3, s4, s5, s6, s7⟩ := t1 k hkn
          obtain ⟨z0, z1, z2, z3, z4, z5, z6, z7⟩ := t2 k hkn
          generalize fx X k = f at *
          have hkI : (k : Int) < (X.fields.length : Int) := by omega
          have hk2 : (k : Int) ≤ 2049 := by omega
          have HBd := Lib.hid hBd
          clear t1 t2 hBd
          go_wp2_with fail
          go_quiet (fail)
          go_wp2_with fail
          go_roundw
          case rel => exact ⟨k + 1, by omega, by go_num, by have hB := HBd.out; (repeat' (first | (with_reducible exact Below.refl _ _) | (with_reducible assumption) | (with_reducible refine below_drewN ?_ _) | (with_reducible refine Below.alloc ?_ ?_ _) | (with_reducible refine Below.drew ?_) | (with_reducible refine Below.setCell ?_ ?_ _) | (with_reducible refine Below.trans ?_ (Below.mono (by assumption) ?_)) | go_size))⟩
          case measure => simp [intOf]; omega
        · have hkI : (X.fields.length : Int) ≤ (k : Int) := by omega
          have HBd := Lib.hid hBd
          clear hBd
          go_wp2_with fail
          go_roundw
          case rel => exact ⟨i + 1, by omega, by go_num, HBr.out.trans ((HBC.out.trans (HBd.out.mono HBC.out.size)).mono HBr.out.size)⟩
          case measure => simp [intOf]; omega
    · have hiI : (r.structs.length : Int) ≤ (i : Int) := by omega
      go_wp2_with fail
      go_loopw [9] (fun v9 wa => ∃ j : Nat, j ≤ r.enums.length ∧ v9 = .int .i64 (j : Int) ∧ Below W.heap.size W wa) (fun v9 _ => r.enums.length - (intOf v9).toNat)
      case atStart => exact ⟨0, by omega, rfl, hB⟩
      case round =>
        clear hB p0 p1 q0 q1 lAr lBr hi hin hiI
        obtain ⟨i, hi, rfl, hB⟩ := hrel
        rename World => wr
        have p0 : wr.cell? ⟨A, 0, none⟩ = _ := (blk_cell (blk_below HA.out hB lA) 0).trans rfl
        have q0 : wr.cell? ⟨B, 0, none⟩ = _ := (blk_cell (blk_below HB.out hB lB) 0).trans rfl
        have p1 : wr.cell? ⟨A, 1, none⟩ = _ := (blk_cell (blk_below HA.out hB lA) 1).trans rfl
        have q1 : wr.cell? ⟨B, 1, none⟩ = _ := (blk_cell (blk_below HB.out hB lB) 1).trans rfl
        have lAr : A < wr.heap.size := Nat.lt_of_lt_of_le lA hB.size
        have lBr : B < wr.heap.size := Nat.lt_of_lt_of_le lB hB.size
        by_cases hin : i < r.enums.length
        · obtain ⟨x, xa, xc, rfl, lx, x0, x1, x2, xf⟩ := (H1.out.below hB).e i hin
          obtain ⟨y, ya, yc, rfl, ly, y0, y1, y2, yf⟩ := (H2.out.below hB).e i hin
          have hxn := HBD.out.n _ (cx_mem hin)
          generalize cx r i = X at *
          have hiI : (i : Int) < (r.enums.length : Int) := by omega
          have hi2 : (i : Int) ≤ 2049 := by omega
          have HBr := Lib.hid hB
          have XF := Lib.hid xf
          have YF := Lib.hid yf
          clear hB xf yf
          go_upto_region 17 with (fail)
          go_cut [10, 11] (fun v10 v11 wc => ∃ P1 P2 : Nat, v10 = .pointer (some ⟨P1, 0, none⟩) ∧ v11 = .pointer (some ⟨P2, 0, none⟩) ∧ Below wr.heap.size wr wc ∧ wr.heap.size ≤ P1 ∧ wr.heap.size ≤ P2 ∧ wc.heap[P1]? = some (.cells #[.string X.name, .int .i64 (X.pos : Int), .slice xa X.names.length xc] 190 (0, 0)) ∧ wc.heap[P2]? = some (.cells #[.string X.name, .int .i64 (X.pos : Int), .slice ya X.names.length yc] 190 (0, 0)))
          case first =>
            go_region_held3 (fun w' => w'.cell? ⟨A, 1, none⟩ = some (.slice (some ⟨x, 0, none⟩) r.enums.length c2) ∧ w'.cell? ⟨B, 1, none⟩ = some (.slice (some ⟨y, 0, none⟩) r.enums.length d2) ∧ w'.cell? ⟨x, i * 3, none⟩ = some (.string X.name) ∧ w'.cell? ⟨x, i * 3 + 1, none⟩ = some (.int .i64 (X.pos : Int)) ∧ w'.cell? ⟨x, i * 3 + 2, none⟩ = some (.slice xa X.names.length xc) ∧ w'.cell? ⟨y, i * 3, none⟩ = some (.string X.name) ∧ w'.cell? ⟨y, i * 3 + 1, none⟩ = some (.int .i64 (X.pos : Int)) ∧ w'.cell? ⟨y, i * 3 + 2, none⟩ = some (.slice ya X.names.length yc)) (((try go_split_ands); refine ⟨?_, ?_, ?_, ?_, ?_, ?_, ?_, ?_⟩ <;> (first | (with_reducible assumption) | (with_reducible (refine alloc_keep ?_; assumption)) | go_keep))) (fail)
            all_goals (go_wp2_with fail; go_meet)
            all_goals (first | exact ⟨wr.heap.size, wr.heap.size + 1, rfl, rfl, two_below _ _ _, by omega, by omega, two_one _ _ _ _, two_two _ _ _ _⟩ | exact ⟨wr.heap.size + 1, wr.heap.size, rfl, rfl, two_below _ _ _, by omega, by omega, two_two _ _ _ _, two_one _ _ _ _⟩)
          obtain ⟨P1, P2, rfl, rfl, hBc, h1, h2, hb1, hb2⟩ := hcut
          have k0 : wc.cell? ⟨P1, 0, none⟩ = _ := (blk_cell hb1 0).trans rfl
          have k1 : wc.cell? ⟨P1, 1, none⟩ = _ := (blk_cell hb1 1).trans rfl
          have k2 : wc.cell? ⟨P1, 2, none⟩ = _ := (blk_cell hb1 2).trans rfl
          have m0 : wc.cell? ⟨P2, 0, none⟩ = _ := (blk_cell hb2 0).trans rfl
          have m1 : wc.cell? ⟨P2, 1, none⟩ = _ := (blk_cell hb2 1).trans rfl
          have m2 : wc.cell? ⟨P2, 2, none⟩ = _ := (blk_cell hb2 2).trans rfl
          have l1 := blk_lt hb1
          have l2 := blk_lt hb2
          have XF' := Lib.hid (XF.out.below hBc)
          have YF' := Lib.hid (YF.out.below hBc)
          have HBC := Lib.hid hBc
          clear hb1 hb2 hBc p0 p1 q0 q1 x0 x1 x2 y0 y1 y2 lAr lBr
          go_wp2_with fail
          refine (sameToks_calls xa ya xc yc X.names (by omega) _ XF'.out YF'.out).mono ?_
          rintro e wd ⟨rfl, hBd⟩
          have HBd := Lib.hid hBd
          clear hBd
          go_wp2_with fail
          go_roundw
          case rel => exact ⟨i + 1, by omega, by go_num, HBr.out.trans ((HBC.out.trans (HBd.out.mono HBC.out.size)).mono HBr.out.size)⟩
          case measure => simp [intOf]; omega
        · have hiI : (r.enums.length : Int) ≤ (i : Int) := by omega
          go_wp2_with fail
          go_ret
          exact ⟨rfl, HBW.out.trans (hB.mono HBW.out.size)⟩

end Go.Proofs.YtgoaiokpnifhfaaDoor

/-
  Layer 4: a text is told as the document tells it.
-/
namespace Go.Proofs.YtgoaiokpnifhfaaDoor
open Go.RowKit
set_option linter.unusedVariables false
set_option linter.unusedSimpArgs false

/-- what is answered: the schema, the fault, its place -/
def outR : Except (Int × Nat) RawD → RawD × Int × Nat
  | .error (c, p) => (⟨[], [], []⟩, c, p)
  | .ok r => (r, 0, 0)
theorem out_bd (s : ByteArray) : RawBd (outR (parseI s)).1 := by
  cases h : parseI s with
  | error x => exact ⟨Nat.zero_le _, Nat.zero_le _, Nat.zero_le _, (fun x hx => absurd hx List.not_mem_nil), (fun x hx => absurd hx List.not_mem_nil)⟩
  | ok r => exact parse_bd h
theorem no_rows (w : World) : RawRows w none none none ⟨[], [], []⟩ := ⟨fun i hi => absurd hi (Nat.not_lt_zero i), fun i hi => absurd hi (Nat.not_lt_zero i), fun h => absurd h (by decide)⟩

theorem parse_told (s : ByteArray) (w : World) (hs : s.size ≤ 140737488351232) : Calls Tryd.prog 45 #[.string s] w fun e w' => ∃ a1 c1 a2 c2 a3 c3, e = .returned (.tuple #[.agg #[.slice a1 (outR (parseI s)).1.structs.length c1, .slice a2 (outR (parseI s)).1.enums.length c2, .slice a3 (outR (parseI s)).1.roots.length c3], .agg #[.int .i64 (outR (parseI s)).2.1, .int .i64 ((outR (parseI s)).2.2 : Int)]]) ∧ Below w.heap.size w w' ∧ RawRows w' a1 a2 a3 (outR (parseI s)).1 := by
  refine (parse_calls s w hs).mono fun e w' h => ?_
  unfold ParsePost at h
  cases ho : parseI s with
  | error x =>
    obtain ⟨c, p⟩ := x
    rw [ho] at h
    obtain ⟨hB, rfl⟩ := h
    exact ⟨none, 0, none, 0, none, 0, rfl, hB, no_rows _⟩
  | ok r =>
    rw [ho] at h
    obtain ⟨hB, vs, ve, vr, rfl, hr⟩ := h
    obtain ⟨a1, c1, a2, c2, a3, c3, rfl, rfl, rfl, hrr⟩ := rawRows_of hr
    exact ⟨a1, c1, a2, c2, a3, c3, rfl, hB, hrr⟩
theorem refParse_told (s : ByteArray) (w : World) (hT : Tabs w) (hs : s.size ≤ 140737488351232) : Calls Tryd.prog 51 #[.string s] w fun e w' => ∃ a1 c1 a2 c2 a3 c3, e = .returned (.tuple #[.agg #[.slice a1 (outR (parseI s)).1.structs.length c1, .slice a2 (outR (parseI s)).1.enums.length c2, .slice a3 (outR (parseI s)).1.roots.length c3], .int .i64 (outR (parseI s)).2.1, .int .i64 ((outR (parseI s)).2.2 : Int)]) ∧ Below w.heap.size w w' ∧ RawRows w' a1 a2 a3 (outR (parseI s)).1 := by
  refine (refParse_calls s w hT hs).mono fun e w' h => ?_
  unfold RefParsePost at h
  cases ho : parseI s with
  | error x =>
    obtain ⟨c, p⟩ := x
    rw [ho] at h
    obtain ⟨hB, rfl⟩ := h
    exact ⟨none, 0, none, 0, none, 0, rfl, hB, no_rows _⟩
  | ok r =>
    rw [ho] at h
    obtain ⟨hB, vs, ve, vr, rfl, hr⟩ := h
    obtain ⟨a1, c1, a2, c2, a3, c3, rfl, rfl, rfl, hrr⟩ := rawRows_of hr
    exact ⟨a1, c1, a2, c2, a3, c3, rfl, hB, hrr⟩

set_option maxHeartbeats 2000000 in
set_option maxRecDepth 100000 in
theorem told04_calls (s : ByteArray) (w : World) (hT : Tabs w) (hs : s.size ≤ 140737488351232) : Calls Tryd.prog 17 #[.string s] w fun e w' => e = .returned (.bool true) ∧ Below w.heap.size w w' := by
  have h1 := fun (W : World) => parse_told s W hs
  have h2 := fun (W : World) (hT : Tabs W) => refParse_told s W hT hs
  have hbd := out_bd s
  obtain ⟨⟨R, C, P⟩, hR⟩ : ∃ x, x = outR (parseI s) := ⟨_, rfl⟩
  rw [← hR] at h1 h2 hbd
  simp only at h1 h2 hbd
  have H1 := Lib.hid h1
  have H2 := Lib.hid h2
  have HBD := Lib.hid hbd
  have HT := Lib.hid hT
  clear h1 h2 hR hbd hT
  go_enter Tryd.func17, Tryd.ntmps17
  go_wp2_with fail
  refine (H1.out w).mono ?_
  rintro e w1 ⟨a1, c1, a2, c2, a3, c3, rfl, hB1, hr1⟩
  have HB1 := Lib.hid hB1
  have HR1 := Lib.hid hr1
  clear hB1 hr1
  go_wp2_with fail
  obtain ⟨w2, hw2⟩ : ∃ w2, w2 = (w1.alloc (Obj.cells #[Value.slice a1 R.structs.length c1, Value.slice a2 R.enums.length c2, Value.slice a3 R.roots.length c3] 116)).alloc (Obj.cells #[Value.int .i64 C, Value.int .i64 (P : Int)] 27) := ⟨_, rfl⟩
  have hb2 : Below w1.heap.size w1 w2 := by rw [hw2]; exact (below1 _ _).alloc (by simp) _
  have hX : w2.heap[w1.heap.size]? = some (Obj.cells #[Value.slice a1 R.structs.length c1, Value.slice a2 R.enums.length c2, Value.slice a3 R.roots.length c3] 116 (0, 0)) := by rw [hw2]; exact blk_alloc (blk_new _ _) _
  have hF : w2.heap[w1.heap.size + 1]? = some (Obj.cells #[Value.int .i64 C, Value.int .i64 (P : Int)] 27 (0, 0)) := by
    rw [hw2]
    have := blk_new (w1.alloc (Obj.cells #[Value.slice a1 R.structs.length c1, Value.slice a2 R.enums.length c2, Value.slice a3 R.roots.length c3] 116)) (Obj.cells #[Value.int .i64 C, Value.int .i64 (P : Int)] 27)
    rw [World.size_alloc] at this
    exact this
  rw [← hw2]
  have HB2 := Lib.hid (HB1.out.trans (hb2.mono HB1.out.size))
  have HR2 := Lib.hid (HR1.out.below hb2)
  have HX := Lib.hid hX
  have HF := Lib.hid hF
  obtain ⟨F, hFe⟩ : ∃ F, F = w1.heap.size + 1 := ⟨_, rfl⟩
  obtain ⟨X, hXe⟩ : ∃ X, X = w1.heap.size := ⟨_, rfl⟩
  rw [← hFe] at HF ⊢
  rw [← hXe] at HX ⊢
  clear hw2 hb2 hX hF hFe hXe
  refine (H2.out _ (HT.out.below HB2.out)).mono ?_
  rintro e w3 ⟨b1, d1, b2, d2, b3, d3, rfl, hB3, hr3⟩
  have hX3 := blk_below HX.out hB3 (blk_lt HX.out)
  have hF3 := blk_below HF.out hB3 (blk_lt HF.out)
  have HR3 := Lib.hid (HR2.out.below hB3)
  have HB3 := Lib.hid (HB2.out.trans (hB3.mono HB2.out.size))
  have HQ3 := Lib.hid hr3
  have lX := blk_lt hX3
  have lF := blk_lt hF3
  have x0 : w3.cell? ⟨X, 0, none⟩ = _ := (blk_cell hX3 0).trans rfl
  have x1 : w3.cell? ⟨X, 1, none⟩ = _ := (blk_cell hX3 1).trans rfl
  have x2 : w3.cell? ⟨X, 2, none⟩ = _ := (blk_cell hX3 2).trans rfl
  have f0 : w3.cell? ⟨F, 0, none⟩ = _ := (blk_cell hF3 0).trans rfl
  have f1 : w3.cell? ⟨F, 1, none⟩ = _ := (blk_cell hF3 1).trans rfl
  clear hB3 hr3 hX3 hF3
  go_wp2_with fail
  refine (sameRaw_calls a1 a2 a3 b1 b2 b3 c1 c2 c3 d1 d2 d3 R HBD.out _ (HR3.out.below (below1 _ _)) (HQ3.out.below (below1 _ _))).mono ?_
  rintro e w4 ⟨rfl, hB4⟩
  have HB4 := Lib.hid hB4
  clear hB4
  go_wp2_with fail
  go_ret
  exact ⟨rfl, HB3.out.trans (((below1 w3 _).trans (HB4.out.mono (by simp))).mono HB3.out.size)⟩

end Go.Proofs.YtgoaiokpnifhfaaDoor
