/-
  A schema as it is written, in memory: what is read of it.
-/
import Derived.Test.YtgoaiokpnifhfaaIdl10
import Derived.Test.YtgoaiokpnifhfaaTokRow
namespace Go.Proofs.Ytgoaiokpnifhfaa
open Go.RowKit
set_option linter.unusedVariables false
set_option linter.unusedSimpArgs false

theorem inner_at {β : Type} {w : World} {A : Nat → Prop} {n : β → Nat} {cs : β → List Value} (nm : β → ByteArray) (ps : β → Nat) : ∀ (bs : List β) (vs : List Value), InnersAt w A n cs bs vs → ∀ (i : Nat) (b : β), bs[i]? = some b →
    ∃ v, SliceAt w A v (n b) (cs b) ∧ (hdCells nm ps bs vs)[i * 3]? = some (.string (nm b)) ∧ (hdCells nm ps bs vs)[i * 3 + 1]? = some (.int .i64 (ps b : Int)) ∧ (hdCells nm ps bs vs)[i * 3 + 2]? = some v
  | [], [], _, i, b, hb => by simp at hb
  | x :: bs, v :: vs, h, 0, b, hb => by
    obtain rfl := Option.some.inj hb
    exact ⟨v, h.1, rfl, rfl, rfl⟩
  | x :: bs, v :: vs, h, i + 1, b, hb => by
    have hb2 : bs[i]? = some b := by simpa using hb
    obtain ⟨u, h0, h1, h2, h3⟩ := inner_at nm ps bs vs h.2 i b hb2
    refine ⟨u, h0, ?_⟩
    rw [show (i + 1) * 3 = i * 3 + 1 + 1 + 1 by omega]
    exact ⟨h1, h2, h3⟩
  | [], _ :: _, h, _, _, _ => h.elim
  | _ :: _, [], h, _, _, _ => h.elim
theorem fldCells_get (l : List RField) : ∀ (k : Nat) (f : RField), l[k]? = some f → ∀ t, t < 8 → (fldCells l)[k * 8 + t]? = (fldL f)[t]? := by
  induction l with
  | nil => intro k f h; simp at h
  | cons a l ih =>
    intro k f h t ht
    have e : fldCells (a :: l) = fldL a ++ fldCells l := rfl
    have hl : (fldL a).length = 8 := rfl
    cases k with
    | zero =>
      obtain rfl := Option.some.inj h
      rw [e, Nat.zero_mul, Nat.zero_add, List.getElem?_append_left (by rw [hl]; exact ht)]
    | succ k =>
      have h2 : l[k]? = some f := by simpa using h
      rw [e, List.getElem?_append_right (by rw [hl]; omega), hl, show (k + 1) * 8 + t - 8 = k * 8 + t by omega]
      exact ih k f h2 t ht

def rec0 : RRec := ⟨⟨#[]⟩, 0, []⟩
def cho0 : RChoice := ⟨⟨#[]⟩, 0, []⟩
def fld0 : RField := ⟨⟨#[]⟩, 0, ⟨⟨#[]⟩, 0, 0⟩, tok0⟩
def rx (r : RawD) (i : Nat) : RRec := (r.structs[i]?).getD rec0
def cx (r : RawD) (i : Nat) : RChoice := (r.enums[i]?).getD cho0
def fx (X : RRec) (k : Nat) : RField := (X.fields[k]?).getD fld0
theorem rx_mem {r : RawD} {i : Nat} (h : i < r.structs.length) : rx r i ∈ r.structs := by unfold rx; rw [List.getElem?_eq_getElem h]; exact List.getElem_mem h
theorem cx_mem {r : RawD} {i : Nat} (h : i < r.enums.length) : cx r i ∈ r.enums := by unfold cx; rw [List.getElem?_eq_getElem h]; exact List.getElem_mem h

/-- a field's cells -/
structure FldAt (w : World) (q k : Nat) (f : RField) : Prop where
  c0 : w.cell? ⟨q, k * 8, none⟩ = some (.string f.name)
  c1 : w.cell? ⟨q, k * 8 + 1, none⟩ = some (.int .i64 (f.pos : Int))
  c2 : w.cell? ⟨q, k * 8 + 2, none⟩ = some (.string f.ty.name)
  c3 : w.cell? ⟨q, k * 8 + 3, none⟩ = some (.int .i64 (f.ty.lists : Int))
  c4 : w.cell? ⟨q, k * 8 + 4, none⟩ = some (.int .i64 (f.ty.pos : Int))
  c5 : w.cell? ⟨q, k * 8 + 5, none⟩ = some (.int .i64 f.df.kind)
  c6 : w.cell? ⟨q, k * 8 + 6, none⟩ = some (.string f.df.text)
  c7 : w.cell? ⟨q, k * 8 + 7, none⟩ = some (.int .i64 (f.df.pos : Int))
/-- a struct's fields -/
def FldRow (w : World) (a : Option Addr) (X : RRec) : Prop := 0 < X.fields.length → ∃ q, a = some ⟨q, 0, none⟩ ∧ q < w.heap.size ∧ ∀ k, k < X.fields.length → FldAt w q k (fx X k)
theorem FldAt.below {w w' : World} {q k : Nat} {f : RField} (h : FldAt w q k f) (hb : Below w.heap.size w w') : FldAt w' q k f :=
  ⟨cell_kept h.c0 hb, cell_kept h.c1 hb, cell_kept h.c2 hb, cell_kept h.c3 hb, cell_kept h.c4 hb, cell_kept h.c5 hb, cell_kept h.c6 hb, cell_kept h.c7 hb⟩
theorem FldRow.below {w w' : World} {a : Option Addr} {X : RRec} (h : FldRow w a X) (hb : Below w.heap.size w w') : FldRow w' a X := fun h0 => by
  obtain ⟨q, e, hq, hc⟩ := h h0
  exact ⟨q, e, Nat.lt_of_lt_of_le hq hb.size, fun k hk => (hc k hk).below hb⟩
theorem fldRow_of {w : World} {A : Nat → Prop} {v : Value} {X : RRec} (h : SliceAt w A v (fldN X) (fldC X)) : ∃ a c, v = .slice a X.fields.length c ∧ FldRow w a X := by
  obtain ⟨a, c, rfl, _, h⟩ := h
  refine ⟨a, c, rfl, fun h0 => ?_⟩
  obtain ⟨q, ea, _, hq, hc⟩ := h h0
  refine ⟨q, ea, hq, fun k hk => ?_⟩
  have hg : X.fields[k]? = some (fx X k) := by unfold fx; rw [List.getElem?_eq_getElem hk]; rfl
  have hh := fun t ht => fldCells_get X.fields k (fx X k) hg t ht
  exact ⟨hc _ _ (hh 0 (by decide)), hc _ _ (hh 1 (by decide)), hc _ _ (hh 2 (by decide)), hc _ _ (hh 3 (by decide)), hc _ _ (hh 4 (by decide)), hc _ _ (hh 5 (by decide)), hc _ _ (hh 6 (by decide)), hc _ _ (hh 7 (by decide))⟩
theorem tokRow_of {w : World} {A : Nat → Prop} {v : Value} {l : List Tok} (h : SliceAt w A v l.length (tokCells l)) : ∃ a c, v = .slice a l.length c ∧ TokRow w a l := by
  obtain ⟨a, c, rfl, _, h⟩ := h
  refine ⟨a, c, rfl, fun h0 => ?_⟩
  obtain ⟨q, ea, _, hq, hc⟩ := h h0
  refine ⟨q, ea, fun k hk => ?_⟩
  have g := tokCells_get l k hk
  exact ⟨hc _ _ g.1, hc _ _ g.2.1, hc _ _ g.2.2⟩

/-- a schema's three slices -/
structure RawRows (w : World) (a1 a2 a3 : Option Addr) (r : RawD) : Prop where
  s : ∀ i, i < r.structs.length → ∃ q a c, a1 = some ⟨q, 0, none⟩ ∧ q < w.heap.size ∧ w.cell? ⟨q, i * 3, none⟩ = some (.string (rx r i).name) ∧ w.cell? ⟨q, i * 3 + 1, none⟩ = some (.int .i64 ((rx r i).pos : Int)) ∧ w.cell? ⟨q, i * 3 + 2, none⟩ = some (.slice a (rx r i).fields.length c) ∧ FldRow w a (rx r i)
  e : ∀ i, i < r.enums.length → ∃ q a c, a2 = some ⟨q, 0, none⟩ ∧ q < w.heap.size ∧ w.cell? ⟨q, i * 3, none⟩ = some (.string (cx r i).name) ∧ w.cell? ⟨q, i * 3 + 1, none⟩ = some (.int .i64 ((cx r i).pos : Int)) ∧ w.cell? ⟨q, i * 3 + 2, none⟩ = some (.slice a (cx r i).names.length c) ∧ TokRow w a (cx r i).names
  r : TokRow w a3 r.roots
theorem RawRows.below {w w' : World} {a1 a2 a3 : Option Addr} {r : RawD} (h : RawRows w a1 a2 a3 r) (hb : Below w.heap.size w w') : RawRows w' a1 a2 a3 r :=
  ⟨fun i hi => by
    obtain ⟨q, a, c, e, hq, h0, h1, h2, h3⟩ := h.s i hi
    exact ⟨q, a, c, e, Nat.lt_of_lt_of_le hq hb.size, cell_kept h0 hb, cell_kept h1 hb, cell_kept h2 hb, h3.below hb⟩,
  fun i hi => by
    obtain ⟨q, a, c, e, hq, h0, h1, h2, h3⟩ := h.e i hi
    exact ⟨q, a, c, e, Nat.lt_of_lt_of_le hq hb.size, cell_kept h0 hb, cell_kept h1 hb, cell_kept h2 hb, h3.below hb⟩, h.r.below hb⟩
theorem rawRows_of {w : World} {vs ve vr : Value} {r : RawD} (h : RawAt w vs ve vr r) : ∃ a1 c1 a2 c2 a3 c3, vs = .slice a1 r.structs.length c1 ∧ ve = .slice a2 r.enums.length c2 ∧ vr = .slice a3 r.roots.length c3 ∧ RawRows w a1 a2 a3 r := by
  obtain ⟨sl, el, ⟨a1, c1, rfl, _, h1⟩, ⟨a2, c2, rfl, _, h2⟩, h3, h4, h5⟩ := h
  obtain ⟨a3, c3, e3, h6⟩ := tokRow_of h3
  subst e3
  refine ⟨a1, c1, a2, c2, a3, c3, rfl, rfl, rfl, ⟨fun i hi => ?_, fun i hi => ?_, h6⟩⟩
  · obtain ⟨q, ea, _, hq, hc⟩ := h1 (by omega)
    have hg : r.structs[i]? = some (rx r i) := by unfold rx; rw [List.getElem?_eq_getElem hi]; rfl
    obtain ⟨v, hv, g0, g1, g2⟩ := inner_at RRec.name RRec.pos _ _ h4 i _ hg
    obtain ⟨a, c, rfl, hr⟩ := fldRow_of hv
    exact ⟨q, a, c, ea, hq, hc _ _ g0, hc _ _ g1, hc _ _ g2, hr⟩
  · obtain ⟨q, ea, _, hq, hc⟩ := h2 (by omega)
    have hg : r.enums[i]? = some (cx r i) := by unfold cx; rw [List.getElem?_eq_getElem hi]; rfl
    obtain ⟨v, hv, g0, g1, g2⟩ := inner_at RChoice.name RChoice.pos _ _ h5 i _ hg
    obtain ⟨a, c, rfl, hr⟩ := tokRow_of hv
    exact ⟨q, a, c, ea, hq, hc _ _ g0, hc _ _ g1, hc _ _ g2, hr⟩

/-- how much room there is behind fields, names -/
structure RawCap (w : World) (a1 a2 : Option Addr) (r : RawD) : Prop where
  s : ∀ i, i < r.structs.length → ∀ q a n c, a1 = some ⟨q, 0, none⟩ → w.cell? ⟨q, i * 3 + 2, none⟩ = some (.slice a n c) → n ≤ c
  e : ∀ i, i < r.enums.length → ∀ q a n c, a2 = some ⟨q, 0, none⟩ → w.cell? ⟨q, i * 3 + 2, none⟩ = some (.slice a n c) → n ≤ c
theorem slice_cap {w : World} {A : Nat → Prop} {a : Option Addr} {n m c : Nat} {cs : List Value} (h : SliceAt w A (.slice a n c) m cs) : n ≤ c := by
  obtain ⟨a', c', e, hc, _⟩ := h
  cases e; exact hc
theorem rawCap_of {w : World} {a1 a2 : Option Addr} {n1 n2 c1 c2 : Nat} {vr : Value} {r : RawD} (h : RawAt w (.slice a1 n1 c1) (.slice a2 n2 c2) vr r) : RawCap w a1 a2 r := by
  obtain ⟨sl, el, ⟨b1, d1, e1, _, h1⟩, ⟨b2, d2, e2, _, h2⟩, h3, h4, h5⟩ := h
  cases e1
  cases e2
  refine ⟨fun i hi q a n c hq hc => ?_, fun i hi q a n c hq hc => ?_⟩
  · obtain ⟨q', ea, _, _, hcc⟩ := h1 (by omega)
    obtain rfl : q = q' := by rw [hq] at ea; simpa using ea
    have hg : r.structs[i]? = some (rx r i) := by unfold rx; rw [List.getElem?_eq_getElem hi]; rfl
    obtain ⟨v, hv, _, _, g2⟩ := inner_at RRec.name RRec.pos _ _ h4 i _ hg
    have := hcc _ _ g2
    rw [hc] at this
    cases this
    exact slice_cap hv
  · obtain ⟨q', ea, _, _, hcc⟩ := h2 (by omega)
    obtain rfl : q = q' := by rw [hq] at ea; simpa using ea
    have hg : r.enums[i]? = some (cx r i) := by unfold cx; rw [List.getElem?_eq_getElem hi]; rfl
    obtain ⟨v, hv, _, _, g2⟩ := inner_at RChoice.name RChoice.pos _ _ h5 i _ hg
    have := hcc _ _ g2
    rw [hc] at this
    cases this
    exact slice_cap hv

/-! ### as many as there may be -/
structure RawBd (r : RawD) : Prop where
  s : r.structs.length ≤ 2049
  e : r.enums.length ≤ 2049
  o : r.roots.length ≤ 2049
  f : ∀ x ∈ r.structs, x.fields.length ≤ 2049
  n : ∀ x ∈ r.enums, x.names.length ≤ 2049
theorem serLoop_len {α : Type} (l : List Tok) (one : PS → PS) (val : PS → α) : ∀ (f : Nat) (σ : PS) (acc : List α), (serLoop l one val f σ acc).1.length ≤ acc.length + f := by
  intro f
  induction f with
  | zero => intro σ acc; simp [serLoop]
  | succ f ih =>
    intro σ acc
    simp only [serLoop]
    split
    · split
      · simp
      · have := ih (one σ) (acc ++ [val σ])
        simp only [List.length_append, List.length_cons, List.length_nil] at this
        omega
    · simp
theorem serR_len {α : Type} {l : List Tok} (one : PS → PS) (val : PS → α) (σ : PS) (hl : l.length ≤ 2048) : (serR l one val σ).1.length ≤ 2049 := by
  have := serLoop_len l one val (l.length + 1) (wantS l cOpen σ) []
  unfold serR
  simp only [List.length_nil] at this
  omega
theorem cntR_decl (l : List Tok) (σ : PS) (r : RawD) : cntR (declV l σ r) ≤ cntR r + 1 := declV_cnt l σ r
theorem all_bd (l : List Tok) (hl : l.length ≤ 2048) : ∀ (f : Nat) (σ : PS) (r : RawD), (∀ x ∈ r.structs, x.fields.length ≤ 2049) → (∀ x ∈ r.enums, x.names.length ≤ 2049) →
    cntR (allLoop l f σ r).1 ≤ cntR r + f ∧ (∀ x ∈ (allLoop l f σ r).1.structs, x.fields.length ≤ 2049) ∧ (∀ x ∈ (allLoop l f σ r).1.enums, x.names.length ≤ 2049) := by
  intro f
  induction f with
  | zero => intro σ r h1 h2; exact ⟨Nat.le_refl _, h1, h2⟩
  | succ f ih =>
    intro σ r h1 h2
    unfold allLoop
    split
    · have hd : (∀ x ∈ (declV l σ r).structs, x.fields.length ≤ 2049) ∧ (∀ x ∈ (declV l σ r).enums, x.names.length ≤ 2049) := by
        unfold declV
        split
        · refine ⟨fun x hx => ?_, h2⟩
          rcases List.mem_append.1 hx with e | e
          · exact h1 x e
          · obtain rfl := List.mem_singleton.1 e
            exact serR_len _ _ _ hl
        · split
          · refine ⟨h1, fun x hx => ?_⟩
            rcases List.mem_append.1 hx with e | e
            · exact h2 x e
            · obtain rfl := List.mem_singleton.1 e
              exact serR_len _ _ _ hl
          · split
            · exact ⟨h1, h2⟩
            · exact ⟨h1, h2⟩
      have h3 := ih (declS l σ) (declV l σ r) hd.1 hd.2
      have h4 := declV_cnt l σ r
      exact ⟨by omega, h3.2⟩
    · exact ⟨by show cntR r ≤ _; omega, h1, h2⟩
theorem parse_bd {s : ByteArray} {r : RawD} (h : parseI s = .ok r) : RawBd r := by
  unfold parseI at h
  cases ht : toks s sgI with
  | error x => rw [ht] at h; cases h
  | ok l =>
    rw [ht] at h
    simp only [rawOf] at h
    by_cases e : (allR l).2.c = 0
    · rw [if_pos e] at h
      cases h
      have h2 := toks_most ht
      have h1 := all_bd l h2 (l.length + 1) ⟨0, 0, 0⟩ ⟨[], [], []⟩ (by simp) (by simp)
      have h3 : cntR ⟨[], [], []⟩ = 0 := rfl
      have h4 := h1.1
      unfold cntR at h4 h3
      have e1 : (allR l).1 = (allLoop l (l.length + 1) ⟨0, 0, 0⟩ ⟨[], [], []⟩).1 := rfl
      rw [e1]
      exact ⟨by omega, by omega, by omega, h1.2.1, h1.2.2⟩
    · rw [if_neg e] at h; cases h

end Go.Proofs.Ytgoaiokpnifhfaa
