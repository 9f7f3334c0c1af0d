/-
  schema.Make: what is made of what is written.
-/
import Derived.Test.YtgoaiokpnifhfaaMkF
import Derived.Test.YtgoaiokpnifhfaaMkN
import Derived.Test.YtgoaiokpnifhfaaMkG
import Derived.Deep.AppendLies
namespace Go.Proofs.Ytgoaiokpnifhfaa
open Go.RowKit
set_option linter.unusedVariables false
set_option linter.unusedSimpArgs false

/-- what Make comes to -/
structure MakePost (o : Except (Int × Nat) FSchema) (w : World) (e : Ending) (w' : World) : Prop where
  ok : ∀ s, o = .ok s → ∃ v, e = .returned (.tuple #[v, .agg #[.int .i64 0, .int .i64 0]]) ∧ ∀ W, w'.heap.size ≤ W.heap.size → (∀ b, w.heap.size ≤ b → b < w'.heap.size → W.heap[b]? = w'.heap[b]?) → SchemaAt W v s
  err : ∀ c p, o = .error (c, p) → e = .returned (.tuple #[.agg #[.slice none 0 0, .slice none 0 0, .int .i64 0], .agg #[.int .i64 c, .int .i64 (p : Int)]])
  below : Below w.heap.size w w'
theorem MakePost.mk_err {c : Int} {p : Nat} {w w' : World} {e : Ending} (he : e = .returned (.tuple #[.agg #[.slice none 0 0, .slice none 0 0, .int .i64 0], .agg #[.int .i64 c, .int .i64 (p : Int)]])) (hb : Below w.heap.size w w') : MakePost (.error (c, p)) w e w' :=
  ⟨fun g' h => (by cases h), fun c p h => (by cases h; exact he), hb⟩
theorem MakePost.mk_ok {s : FSchema} {v : Value} {w w' : World} {e : Ending} (he : e = .returned (.tuple #[v, .agg #[.int .i64 0, .int .i64 0]])) (hs : ∀ W, w'.heap.size ≤ W.heap.size → (∀ b, w.heap.size ≤ b → b < w'.heap.size → W.heap[b]? = w'.heap[b]?) → SchemaAt W v s) (hb : Below w.heap.size w w') : MakePost (.ok s) w e w' :=
  ⟨fun g' h => (by cases h; exact ⟨v, he, hs⟩), fun c p h => (by cases h), hb⟩

/-- the call's own blocks -/
structure MkI (w0 : World) (S : Nat) (vR : Array Value) (vS vE : Value) (w : World) : Prop where
  below : Below w0.heap.size w0 w
  b1 : w.heap[S]? = some (.cells vR 27 (0, 0))
  b2 : w.heap[S + 1]? = some (.cells #[.slice none 0 0, .slice none 0 0, .int .i64 0] 52 (0, 0))
  b3 : w.heap[S + 1 + 1]? = some (.cells #[.int .i64 0, .int .i64 0] 30 (0, 0))
  b4 : w.heap[S + 1 + 1 + 1]? = some (.cells #[vS, vE, .int .i64 0] 52 (0, 0))
theorem MkI.run {w0 w w' : World} {S : Nat} {vR : Array Value} {vS vE : Value} (h : MkI w0 S vR vS vE w) (hb : Below w.heap.size w w') : MkI w0 S vR vS vE w' :=
  ⟨h.below.trans (hb.mono h.below.size), blk_below h.b1 hb (blk_lt h.b1), blk_below h.b2 hb (blk_lt h.b2), blk_below h.b3 hb (blk_lt h.b3), blk_below h.b4 hb (blk_lt h.b4)⟩
/-- a row behind the blocks grows, and its slice is put into the schema -/
theorem MkI.grow {w0 w w2 : World} {S : Nat} {vR : Array Value} {vS vE v : Value} {T : TypeId} {c : Array Value} (h : MkI w0 S vR vS vE w) (hS : w0.heap.size ≤ S) (hv : ∀ g, v.ownBlock = some g → S + 1 + 1 + 1 < g) (hg : (w.alloc (.cells c T)).grownBy w2 v.ownBlock) : MkI w0 S vR vS vE w2 := by
  have hlt := blk_lt h.b4
  have e : ∀ q, q ≤ S + 1 + 1 + 1 → w2.heap[q]? = w.heap[q]? := fun q hq => (hg.block q (by simp; omega) (fun e => by have := hv q e.symm; omega)).trans (Below.heap_alloc _ _ _ (by omega))
  refine ⟨Below.grown (h.below.alloc h.below.size _) hg (by simp; have := h.below.size; omega) (fun k e => by have := hv k e; omega), (e _ (by omega)).trans h.b1, (e _ (by omega)).trans h.b2, (e _ (by omega)).trans h.b3, (e _ (by omega)).trans h.b4⟩
theorem MkI.setE {w0 w : World} {S : Nat} {vR : Array Value} {vS vE : Value} (h : MkI w0 S vR vS vE w) (hS : w0.heap.size ≤ S) (x : Value) : MkI w0 S vR vS x (w.setCell ⟨S + 1 + 1 + 1, 1, none⟩ x) :=
  ⟨h.below.setCell (by show w0.heap.size ≤ S + 1 + 1 + 1; omega) _, blk_set_ne h.b1 _ (by show S ≠ S + 1 + 1 + 1; omega) _, blk_set_ne h.b2 _ (by show S + 1 ≠ S + 1 + 1 + 1; omega) _, blk_set_ne h.b3 _ (by show S + 1 + 1 ≠ S + 1 + 1 + 1; omega) _, by rw [blk_set h.b4]; rfl⟩
theorem MkI.setS {w0 w : World} {S : Nat} {vR : Array Value} {vS vE : Value} (h : MkI w0 S vR vS vE w) (hS : w0.heap.size ≤ S) (x : Value) : MkI w0 S vR x vE (w.setCell ⟨S + 1 + 1 + 1, 0, none⟩ x) :=
  ⟨h.below.setCell (by show w0.heap.size ≤ S + 1 + 1 + 1; omega) _, blk_set_ne h.b1 _ (by show S ≠ S + 1 + 1 + 1; omega) _, blk_set_ne h.b2 _ (by show S + 1 ≠ S + 1 + 1 + 1; omega) _, blk_set_ne h.b3 _ (by show S + 1 + 1 ≠ S + 1 + 1 + 1; omega) _, by rw [blk_set h.b4]; rfl⟩

theorem mk3 (w : World) (a b c d : Obj) : ((((w.alloc a).alloc b).alloc c).alloc d).heap[w.heap.size + 1 + 1]? = some c := by
  have := blk_new ((w.alloc a).alloc b) c
  rw [World.size_alloc, World.size_alloc] at this
  exact blk_alloc this _
theorem RawCap.below {w w' : World} {a1 a2 a3 : Option Addr} {r : RawD} (h : RawCap w a1 a2 r) (hr : RawRows w a1 a2 a3 r) (hb : Below w.heap.size w w') : RawCap w' a1 a2 r := by
  refine ⟨fun i hi q a n c e hc => ?_, fun i hi q a n c e hc => ?_⟩
  · obtain ⟨q', a', c', e', hq, _, _, h2, _⟩ := hr.s i hi
    obtain rfl : q = q' := by rw [e] at e'; simpa using e'
    have := (hb.cell (p := ⟨q, i * 3 + 2, none⟩) hq).symm.trans hc
    exact h.s i hi q a n c e this
  · obtain ⟨q', a', c', e', hq, _, _, h2, _⟩ := hr.e i hi
    obtain rfl : q = q' := by rw [e] at e'; simpa using e'
    have := (hb.cell (p := ⟨q, i * 3 + 2, none⟩) hq).symm.trans hc
    exact h.e i hi q a n c e this

/-- an enum's names, while they are taken over; C: its own block -/
structure CInv (wo : World) (f : Nat → ByteArray) (nm : ByteArray) (vn : Value) (k C : Nat) (wi : World) : Prop where
  below : Below wo.heap.size wo wi
  c : wi.heap[C]? = some (.cells #[.string nm, vn] 76 (0, 0))
  own : wi.ownsRow (C + 1) 9 1 vn k ((List.range k).map fun j => .string (f j))
  d : wo.heap.size ≤ C
theorem CInv.run {wo w w' : World} {f : Nat → ByteArray} {nm : ByteArray} {vn : Value} {k C : Nat} (h : CInv wo f nm vn k C w) (hb : Below w.heap.size w w') : CInv wo f nm vn k C w' :=
  ⟨h.below.trans (hb.mono h.below.size), blk_below h.c hb (blk_lt h.c), ownsRow_at h.own (fun g hg => hb.block g (h.own.lt g hg).2), h.d⟩
theorem CInv.step {wo w w1 : World} {f : Nat → ByteArray} {nm : ByteArray} {vn : Value} {k C g cap : Nat} {T : TypeId} (h : CInv wo f nm vn k C w) (hgr : (w.alloc (.cells #[.string (f k)] T)).grownBy w1 vn.ownBlock)
    (hown : w1.ownsRow (C + 1) 9 1 (.slice (some ⟨g, 0, none⟩) (k + 1) cap) (k + 1) (((List.range k).map fun j => .string (f j)) ++ [.string (f k)])) :
    CInv wo f nm (.slice (some ⟨g, 0, none⟩) (k + 1) cap) (k + 1) C (w1.setCell ⟨C, 1, none⟩ (.slice (some ⟨g, 0, none⟩) (k + 1) cap)) := by
  have hz := h.below.size
  have hd := h.d
  have hC : w1.heap[C]? = some (.cells #[.string nm, vn] 76 (0, 0)) := (hgr.block C (by simp; have := blk_lt h.c; omega) (fun e => by have := (h.own.lt C e.symm).1; omega)).trans (blk_alloc h.c _)
  refine ⟨(Below.grown (h.below.alloc (by omega) _) hgr (by simp; omega) (fun j e => by have := (h.own.lt j e).1; omega)).setCell (by show wo.heap.size ≤ C; omega) _, by rw [blk_set hC]; rfl, ?_, hd⟩
  refine ownsRow_setCell_below ?_ (by show C < C + 1; omega) _
  rw [List.range_succ, List.map_append]
  exact hown
/-- a struct's fields, while they are made; C: its own block -/
structure RInv (wo : World) (f : Nat → FField) (nm : ByteArray) (vn : Value) (k C : Nat) (wi : World) : Prop where
  below : Below wo.heap.size wo wi
  c : wi.heap[C]? = some (.cells #[.string nm, vn] 73 (0, 0))
  own : wi.ownsRow (C + 1) 70 5 vn k ((List.range k).flatMap fun j => (f j).cells)
  d : wo.heap.size ≤ C
theorem RInv.run {wo w w' : World} {f : Nat → FField} {nm : ByteArray} {vn : Value} {k C : Nat} (h : RInv wo f nm vn k C w) (hb : Below w.heap.size w w') : RInv wo f nm vn k C w' :=
  ⟨h.below.trans (hb.mono h.below.size), blk_below h.c hb (blk_lt h.c), ownsRow_at h.own (fun g hg => hb.block g (h.own.lt g hg).2), h.d⟩
theorem RInv.step {wo w w1 : World} {f : Nat → FField} {nm : ByteArray} {vn : Value} {k C g cap : Nat} {T : TypeId} (h : RInv wo f nm vn k C w) (hgr : (w.alloc (.cells #[.string (f k).name, .int .u8 (f k).kind, .int .i64 (f k).ref, .int .i64 (f k).lists, .int .u64 (f k).df] T)).grownBy w1 vn.ownBlock)
    (hown : w1.ownsRow (C + 1) 70 5 (.slice (some ⟨g, 0, none⟩) (k + 1) cap) (k + 1) (((List.range k).flatMap fun j => (f j).cells) ++ [.string (f k).name, .int .u8 (f k).kind, .int .i64 (f k).ref, .int .i64 (f k).lists, .int .u64 (f k).df])) :
    RInv wo f nm (.slice (some ⟨g, 0, none⟩) (k + 1) cap) (k + 1) C (w1.setCell ⟨C, 1, none⟩ (.slice (some ⟨g, 0, none⟩) (k + 1) cap)) := by
  have hz := h.below.size
  have hd := h.d
  have hC : w1.heap[C]? = some (.cells #[.string nm, vn] 73 (0, 0)) := (hgr.block C (by simp; have := blk_lt h.c; omega) (fun e => by have := (h.own.lt C e.symm).1; omega)).trans (blk_alloc h.c _)
  refine ⟨(Below.grown (h.below.alloc (by omega) _) hgr (by simp; omega) (fun j e => by have := (h.own.lt j e).1; omega)).setCell (by show wo.heap.size ≤ C; omega) _, by rw [blk_set hC]; rfl, ?_, hd⟩
  refine ownsRow_setCell_below ?_ (by show C < C + 1; omega) _
  rw [flat_succ]
  exact hown

theorem headBad_code {α : Type} {used : List ByteArray} {nm : ByteArray} {pos : Nat} {many : Bool} {l : List α} {lnm : α → ByteArray} {lps : α → Nat} {c : Int} {p : Nat} (h : headBad used nm pos many l lnm lps = some (c, p)) : c = 13 ∨ c = 16 := by
  unfold headBad at h
  split at h
  · cases h; exact .inl rfl
  · split at h
    · cases h; exact .inr rfl
    · unfold dupB firstBad at h
      obtain ⟨k, _, hk⟩ := List.exists_of_findSome?_eq_some h
      unfold dupK at hk
      split at hk
      · split at hk
        · cases hk; exact .inl rfl
        · cases hk
      · cases hk
theorem namesI_code {r : RawD} {c : Int} {p : Nat} (h : namesI r = some (c, p)) : c = 13 ∨ c = 16 := by
  unfold namesI at h
  cases he : firstBad r.enums.length (badE r) with
  | some x =>
    rw [he] at h
    cases h
    obtain ⟨k, _, hk⟩ := List.exists_of_findSome?_eq_some he
    exact headBad_code hk
  | none =>
    rw [he] at h
    obtain ⟨k, _, hk⟩ := List.exists_of_findSome?_eq_some h
    exact headBad_code hk

theorem fieldI_code {r : RawD} {f : RField} {c : Int} {p : Nat} (h : fieldI r f = .error (c, p)) : c = 14 ∨ c = 15 := by
  unfold fieldI at h
  cases ht : typeI r f.ty.name with
  | none => rw [ht] at h; cases h; exact .inl rfl
  | some x =>
    obtain ⟨k, rf⟩ := x
    rw [ht] at h
    simp only at h
    split at h
    · cases h
    · cases hv : valueI r k rf f.ty.lists f.df with
      | none => rw [hv] at h; cases h; exact .inr rfl
      | some n => rw [hv] at h; cases h
theorem headBad_none {α : Type} {used : List ByteArray} {nm : ByteArray} {pos : Nat} {many : Bool} {l : List α} {lnm : α → ByteArray} {lps : α → Nat} (h : headBad used nm pos many l lnm lps = none) : many = false := by
  unfold headBad at h
  split at h
  · cases h
  · split at h
    · cases h
    · rename_i hm; simpa using hm
theorem namesI_ok {r : RawD} (h : namesI r = none) : (∀ i, i < r.enums.length → i < 8 ∧ 1 ≤ (cx r i).names.length ∧ (cx r i).names.length ≤ 32) ∧ (∀ i, i < r.structs.length → i < 16 ∧ 1 ≤ (rx r i).fields.length ∧ (rx r i).fields.length ≤ 16) := by
  unfold namesI at h
  cases he : firstBad r.enums.length (badE r) with
  | some x => rw [he] at h; cases h
  | none =>
    rw [he] at h
    refine ⟨fun i hi => ?_, fun i hi => ?_⟩
    · have := headBad_none (firstBad_none.1 he i hi)
      simp only [manyE, Bool.or_eq_false_iff, decide_eq_false_iff_not] at this
      omega
    · have := headBad_none (firstBad_none.1 h i hi)
      simp only [manyS, Bool.or_eq_false_iff, decide_eq_false_iff_not] at this
      omega
/-- the enums that are made -/
def EnumsI (r : RawD) (O : Nat) (vE : Value) (i : Nat) (vf : Nat → Value) (w : World) : Prop := PInv (fun j w b => StrsRow w b ((cx r j).names.map Tok.text)) (fun j => (cx r j).names.length) (fun j => (cx r j).name) 76 (O + 1) O vE i vf w
/-- the structs that are made -/
def RecsI (r : RawD) (base O : Nat) (vS : Value) (i : Nat) (vf : Nat → Value) (w : World) : Prop := PInv (fun j w b => FieldsRow w b (recO r (rx r j)).fields) (fun j => (rx r j).fields.length) (fun j => (rx r j).name) 73 base O vS i vf w
theorem map_getD {α β : Type} (l : List α) (f : α → β) (d : α) : (List.range l.length).map (fun j => f ((l[j]?).getD d)) = l.map f := by
  apply List.ext_getElem
  · simp
  · intro i h1 h2
    have : i < l.length := by simpa using h1
    simp [this]

theorem rget_rec (r : RawD) (j : Nat) (h : j < r.structs.length) : rget (r.structs.map (recO r)) j = recO r (rx r j) := by
  unfold rget rx
  rw [getElem!_pos _ j (by simpa using h), List.getElem?_eq_getElem h]
  simp
theorem cget_cho (r : RawD) (j : Nat) (h : j < r.enums.length) : cget (r.enums.map choO) j = choO (cx r j) := by
  unfold cget cx
  rw [getElem!_pos _ j (by simpa using h), List.getElem?_eq_getElem h]
  simp
/-- what is handed back -/
theorem make_schema {r : RawD} {W1 wr W' : World} {O : Nat} {vS vE : Value} {vf vg : Nat → Value} (hE : EnumsI r O vE r.enums.length vf W1) (hS : RecsI r W1.heap.size O vS r.structs.length vg wr) (hO : O < W1.heap.size)
    (hk : ∀ b, b < W1.heap.size → b ≠ O → wr.heap[b]? = W1.heap[b]?) (hz : W1.heap.size ≤ wr.heap.size) (hsz : wr.heap.size ≤ W'.heap.size) (hW : ∀ b, b < wr.heap.size → O < b → W'.heap[b]? = wr.heap[b]?) (j : Int) :
    SchemaAt W' (.agg #[vS, vE, .int .i64 j]) ⟨r.structs.map (recO r), r.enums.map choO, j⟩ := by
  refine ⟨vS, vE, rfl, ?_, ?_⟩
  · have h2 := PInv.keep hS (fun j => fields_local _) hO hsz hW
    unfold RecsAt
    rw [show (⟨r.structs.map (recO r), r.enums.map choO, j⟩ : FSchema).structs = r.structs.map (recO r) from rfl, List.length_map]
    refine pairs_of_own _ _ _ _ (O := O) (fun j => (rx r j).name) vg h2.own (fun j hj => by rw [rget_rec r j hj]; rfl) (fun j hj => ?_)
    rw [rget_rec r j hj]
    have := h2.held j hj
    rw [show (recO r (rx r j)).fields.length = (rx r j).fields.length from List.length_map _]
    exact this
  · have h2 := PInv.keep (w' := W') hE (fun j => strs_local _) (Nat.lt_succ_self O) (by omega) (fun b h1 h3 => (hW b (by omega) h3).trans (hk b h1 (by omega)))
    unfold ChoicesAt
    rw [show (⟨r.structs.map (recO r), r.enums.map choO, j⟩ : FSchema).enums = r.enums.map choO from rfl, List.length_map]
    refine pairs_of_own _ _ _ _ (O := O) (fun j => (cx r j).name) vf h2.own (fun j hj => by rw [cget_cho r j hj]; rfl) (fun j hj => ?_)
    rw [cget_cho r j hj]
    have := h2.held j hj
    rw [show (choO (cx r j)).names.length = (cx r j).names.length from List.length_map _]
    exact this

set_option maxHeartbeats 8000000 in
set_option maxRecDepth 100000 in
theorem make_calls (r : RawD) (hbd : RawBd r) (hsz : RawSz r) (a1 a2 a3 : Option Addr) (c1 c2 c3 : Nat) (w : World) (h : RawRows w a1 a2 a3 r) (hcp : RawCap w a1 a2 r) :
    Calls Try.prog 31 #[.agg #[.slice a1 r.structs.length c1, .slice a2 r.enums.length c2, .slice a3 r.roots.length c3]] w (MakePost (makeI r) w) := by
  obtain ⟨is, his, hzs0, hzs1, hzs2⟩ := info_parts info_str
  obtain ⟨ic, hic, hzc0, hzc1, hzc2⟩ := info_parts info_choice
  obtain ⟨ir, hir, hzr0, hzr1, hzr2⟩ := info_parts info_record
  obtain ⟨fi, hfi, hzf0, hzf1, hzf2⟩ := info_parts info_sfield
  have hI0 : MkI w w.heap.size #[.slice a1 r.structs.length c1, .slice a2 r.enums.length c2, .slice a3 r.roots.length c3] (.slice none 0 0) (.slice none 0 0) ((((w.alloc (Obj.cells #[.slice a1 r.structs.length c1, .slice a2 r.enums.length c2, .slice a3 r.roots.length c3] 27)).alloc (Obj.cells #[.slice none 0 0, .slice none 0 0, .int .i64 0] 52)).alloc (Obj.cells #[.int .i64 0, .int .i64 0] 30)).alloc (Obj.cells #[.slice none 0 0, .slice none 0 0, .int .i64 0] 52)) :=
    ⟨nm_below _ _ _ _ _, nm1 _ _ _ _ _, nm2 _ _ _ _ _, mk3 _ _ _ _ _, nm4 _ _ _ _ _⟩
  go_enter Try.func31, Try.ntmps31
  go_upto_region 2 with (fail)
  generalize ((((w.alloc (Obj.cells #[.slice a1 r.structs.length c1, .slice a2 r.enums.length c2, .slice a3 r.roots.length c3] 27)).alloc (Obj.cells #[.slice none 0 0, .slice none 0 0, .int .i64 0] 52)).alloc (Obj.cells #[.int .i64 0, .int .i64 0] 30)).alloc (Obj.cells #[.slice none 0 0, .slice none 0 0, .int .i64 0] 52)) = W at *
  obtain ⟨S, hS⟩ : ∃ S, S = w.heap.size := ⟨_, rfl⟩
  rw [← hS] at hI0 ⊢
  have HSL : w.heap.size ≤ S := by omega
  have HS := Lib.hid HSL
  have HR := Lib.hid h
  have HC := Lib.hid hcp
  have HBD := Lib.hid hbd
  have HSZ := Lib.hid hsz
  have HI0 := Lib.hid hI0
  have hmk : makeI r = match namesI r with
    | some x => .error x
    | none => match firstBad r.structs.length (recB r) with
      | some x => .error x
      | none => match rootI r with
        | .error x => .error x
        | .ok i => .ok ⟨r.structs.map (recO r), r.enums.map choO, (i : Int)⟩ := rfl
  have HMK := Lib.hid hmk
  clear hS HSL hI0 h hcp hbd hsz hmk
  have r0 : W.cell? ⟨S, 0, none⟩ = some (.slice a1 r.structs.length c1) := by rw [blk_cell HI0.out.b1]; rfl
  have r1 : W.cell? ⟨S, 1, none⟩ = some (.slice a2 r.enums.length c2) := by rw [blk_cell HI0.out.b1]; rfl
  have r2 : W.cell? ⟨S, 2, none⟩ = some (.slice a3 r.roots.length c3) := by rw [blk_cell HI0.out.b1]; rfl
  have p0 : W.cell? ⟨S + 1, 0, none⟩ = some (.slice none 0 0) := by rw [blk_cell HI0.out.b2]; rfl
  have p1 : W.cell? ⟨S + 1, 1, none⟩ = some (.slice none 0 0) := by rw [blk_cell HI0.out.b2]; rfl
  have p2 : W.cell? ⟨S + 1, 2, none⟩ = some (.int .i64 0) := by rw [blk_cell HI0.out.b2]; rfl
  have pf := fun j => blk_frozen HI0.out.b2 j
  have q0 : W.cell? ⟨S + 1 + 1, 0, none⟩ = some (.int .i64 0) := by rw [blk_cell HI0.out.b3]; rfl
  have q1 : W.cell? ⟨S + 1 + 1, 1, none⟩ = some (.int .i64 0) := by rw [blk_cell HI0.out.b3]; rfl
  have qf := fun j => blk_frozen HI0.out.b3 j
  have o0 : W.cell? ⟨S + 1 + 1 + 1, 0, none⟩ = some (.slice none 0 0) := by rw [blk_cell HI0.out.b4]; rfl
  have o1 : W.cell? ⟨S + 1 + 1 + 1, 1, none⟩ = some (.slice none 0 0) := by rw [blk_cell HI0.out.b4]; rfl
  have o2 : W.cell? ⟨S + 1 + 1 + 1, 2, none⟩ = some (.int .i64 0) := by rw [blk_cell HI0.out.b4]; rfl
  have of := fun j => blk_frozen HI0.out.b4 j
  have l1 := blk_lt HI0.out.b1
  have l2 := blk_lt HI0.out.b2
  have l3 := blk_lt HI0.out.b3
  have l4 := blk_lt HI0.out.b4
  go_wp2_with fail
  clear r0 r1 r2 p0 p1 p2 pf q0 q1 qf o0 o1 o2 of l1 l2 l3 l4
  refine (names_calls r HBD.out HSZ.out a1 a2 a3 c1 c2 c3 W (HR.out.below HI0.out.below) (HC.out.below HR.out HI0.out.below)).mono ?_
  rintro e w1 ⟨rfl, hB1⟩
  have hI1 := HI0.out.run hB1
  cases hn : namesI r with
  | some x =>
    obtain ⟨c, p⟩ := x
    have hmk : makeI r = .error (c, p) := by rw [HMK.out, hn]
    have hc := namesI_code hn
    have HMK2 := Lib.hid hmk
    have hc0 : (c != 0) = true := by rw [bne_iff_ne]; omega
    have hc1' : decide (c = 0) = false := decide_eq_false (by omega)
    rw [show fltV (some (c, p)) = .agg #[.int .i64 c, .int .i64 (p : Int)] from rfl]
    have hbf := below1 w1 (Obj.cells #[.int .i64 c, .int .i64 (p : Int)] 30)
    have hfb := blk_new w1 (Obj.cells #[.int .i64 c, .int .i64 (p : Int)] 30)
    have HI2 := Lib.hid (hI1.run hbf)
    obtain ⟨w2, hw2⟩ : ∃ w2, w2 = w1.alloc (Obj.cells #[.int .i64 c, .int .i64 (p : Int)] 30) := ⟨_, rfl⟩
    rw [← hw2] at HI2 hfb
    obtain ⟨Fb, hFb⟩ : ∃ Fb, Fb = w1.heap.size := ⟨_, rfl⟩
    have hFG : S + 1 + 1 + 1 < Fb := by have := blk_lt hI1.b4; omega
    rw [← hFb] at hfb
    have HFB := Lib.hid hfb
    clear hB1 hI1 hn hmk hc hbf hfb HMK
    go_upto_region 3 with (fail)
    rw [← hw2, ← hFb]
    clear hw2 hFb
    have z0 : w2.cell? ⟨Fb, 0, none⟩ = some (.int .i64 c) := by rw [blk_cell HFB.out]; rfl
    have z1 : w2.cell? ⟨Fb, 1, none⟩ = some (.int .i64 (p : Int)) := by rw [blk_cell HFB.out]; rfl
    have lF := blk_lt HFB.out
    have r0 : w2.cell? ⟨S, 0, none⟩ = some (.slice a1 r.structs.length c1) := by rw [blk_cell HI2.out.b1]; rfl
    have r1 : w2.cell? ⟨S, 1, none⟩ = some (.slice a2 r.enums.length c2) := by rw [blk_cell HI2.out.b1]; rfl
    have r2 : w2.cell? ⟨S, 2, none⟩ = some (.slice a3 r.roots.length c3) := by rw [blk_cell HI2.out.b1]; rfl
    have p0 : w2.cell? ⟨S + 1, 0, none⟩ = some (.slice none 0 0) := by rw [blk_cell HI2.out.b2]; rfl
    have p1 : w2.cell? ⟨S + 1, 1, none⟩ = some (.slice none 0 0) := by rw [blk_cell HI2.out.b2]; rfl
    have p2 : w2.cell? ⟨S + 1, 2, none⟩ = some (.int .i64 0) := by rw [blk_cell HI2.out.b2]; rfl
    have pf := fun j => blk_frozen HI2.out.b2 j
    have q0 : w2.cell? ⟨S + 1 + 1, 0, none⟩ = some (.int .i64 0) := by rw [blk_cell HI2.out.b3]; rfl
    have q1 : w2.cell? ⟨S + 1 + 1, 1, none⟩ = some (.int .i64 0) := by rw [blk_cell HI2.out.b3]; rfl
    have qf := fun j => blk_frozen HI2.out.b3 j
    have o0 : w2.cell? ⟨S + 1 + 1 + 1, 0, none⟩ = some (.slice none 0 0) := by rw [blk_cell HI2.out.b4]; rfl
    have o1 : w2.cell? ⟨S + 1 + 1 + 1, 1, none⟩ = some (.slice none 0 0) := by rw [blk_cell HI2.out.b4]; rfl
    have o2 : w2.cell? ⟨S + 1 + 1 + 1, 2, none⟩ = some (.int .i64 0) := by rw [blk_cell HI2.out.b4]; rfl
    have of := fun j => blk_frozen HI2.out.b4 j
    have l1 := blk_lt HI2.out.b1
    have l2 := blk_lt HI2.out.b2
    have l3 := blk_lt HI2.out.b3
    have l4 := blk_lt HI2.out.b4
    go_wp2_with fail
    go_region
    all_goals (try go_wp2_with fail)
    all_goals refine bodyPost_ret (v := .tuple #[.agg #[.slice none 0 0, .slice none 0 0, .int .i64 0], .agg #[.int .i64 c, .int .i64 (p : Int)]]) (by simp [results, Try.results31, go_sem, *]) rfl ?_
    all_goals rw [HMK2.out]
    all_goals refine MakePost.mk_err rfl ?_
    all_goals have hB := HI2.out.below
    all_goals have hS := HS.out
    all_goals (repeat' (first | (with_reducible exact Below.refl _ _) | (with_reducible assumption) | (with_reducible refine below_drewN ?_ _) | (with_reducible refine Below.alloc ?_ ?_ _) | (with_reducible refine Below.drew ?_) | (with_reducible refine Below.setCell ?_ ?_ _) | (with_reducible refine Below.trans ?_ (Below.mono (by assumption) ?_)) | go_size))
  | none =>
    rw [show fltV none = .agg #[.int .i64 0, .int .i64 0] from rfl]
    have hmk : makeI r = match firstBad r.structs.length (recB r) with
      | some x => .error x
      | none => match rootI r with
        | .error x => .error x
        | .ok i => .ok ⟨r.structs.map (recO r), r.enums.map choO, (i : Int)⟩ := by rw [HMK.out, hn]
    have HMK2 := Lib.hid hmk
    have HNM := Lib.hid hn
    have HI2 := Lib.hid (hI1.run (below1 w1 (Obj.cells #[.int .i64 0, .int .i64 0] 30)))
    obtain ⟨w2, hw2⟩ : ∃ w2, w2 = w1.alloc (Obj.cells #[.int .i64 0, .int .i64 0] 30) := ⟨_, rfl⟩
    rw [← hw2] at HI2
    clear hB1 hI1 hn hmk HMK
    go_upto_region 5 with (fail)
    rw [← hw2]
    clear hw2
    have r0 : w2.cell? ⟨S, 0, none⟩ = some (.slice a1 r.structs.length c1) := by rw [blk_cell HI2.out.b1]; rfl
    have r1 : w2.cell? ⟨S, 1, none⟩ = some (.slice a2 r.enums.length c2) := by rw [blk_cell HI2.out.b1]; rfl
    have r2 : w2.cell? ⟨S, 2, none⟩ = some (.slice a3 r.roots.length c3) := by rw [blk_cell HI2.out.b1]; rfl
    have p0 : w2.cell? ⟨S + 1, 0, none⟩ = some (.slice none 0 0) := by rw [blk_cell HI2.out.b2]; rfl
    have p1 : w2.cell? ⟨S + 1, 1, none⟩ = some (.slice none 0 0) := by rw [blk_cell HI2.out.b2]; rfl
    have p2 : w2.cell? ⟨S + 1, 2, none⟩ = some (.int .i64 0) := by rw [blk_cell HI2.out.b2]; rfl
    have pf := fun j => blk_frozen HI2.out.b2 j
    have q0 : w2.cell? ⟨S + 1 + 1, 0, none⟩ = some (.int .i64 0) := by rw [blk_cell HI2.out.b3]; rfl
    have q1 : w2.cell? ⟨S + 1 + 1, 1, none⟩ = some (.int .i64 0) := by rw [blk_cell HI2.out.b3]; rfl
    have qf := fun j => blk_frozen HI2.out.b3 j
    have o0 : w2.cell? ⟨S + 1 + 1 + 1, 0, none⟩ = some (.slice none 0 0) := by rw [blk_cell HI2.out.b4]; rfl
    have o1 : w2.cell? ⟨S + 1 + 1 + 1, 1, none⟩ = some (.slice none 0 0) := by rw [blk_cell HI2.out.b4]; rfl
    have o2 : w2.cell? ⟨S + 1 + 1 + 1, 2, none⟩ = some (.int .i64 0) := by rw [blk_cell HI2.out.b4]; rfl
    have of := fun j => blk_frozen HI2.out.b4 j
    have l1 := blk_lt HI2.out.b1
    have l2 := blk_lt HI2.out.b2
    have l3 := blk_lt HI2.out.b3
    have l4 := blk_lt HI2.out.b4
    go_wp2_with fail
    clear r0 r1 r2 p0 p1 p2 pf q0 q1 qf o0 o1 o2 of l1 l2 l3 l4
    go_loopw [28] (fun v28 wr => ∃ (i : Nat) (vE : Value) (vf : Nat → Value), v28 = .int .i64 (i : Int) ∧ i ≤ r.enums.length ∧ Hid (MkI w S #[.slice a1 r.structs.length c1, .slice a2 r.enums.length c2, .slice a3 r.roots.length c3] (.slice none 0 0) vE wr) ∧ Hid (EnumsI r (S + 1 + 1 + 1) vE i vf wr)) (fun v28 _ => r.enums.length - (intOf v28).toNat)
    case atStart => exact ⟨0, _, fun _ => undef, rfl, by omega, HI2.out, PInv.nil _ _ _ _ _ _ _ _⟩
    case round =>
      obtain ⟨i, vE, vf, rfl, hi, hI, hP⟩ := hrel
      rename World => wr
      by_cases hin : i < r.enums.length
      · have hiI : (i : Int) < (r.enums.length : Int) := by omega
        obtain ⟨hi8, hn1, hn32⟩ := (namesI_ok HNM.out).1 i hin
        have hib : (i : Int) ≤ 3000 := by omega
        obtain ⟨q, a, c', rfl, hq0, x0', x1', x2', hrow⟩ := HR.out.e i hin
        have hwr := hI.out.below.size
        have hq : q < wr.heap.size := by omega
        have x0 := cell_kept x0' hI.out.below
        have x1 := cell_kept x1' hI.out.below
        have x2 := cell_kept x2' hI.out.below
        have HROW := Lib.hid hrow
        have hcb : CInv wr (fun j => (((cx r i).names[j]?).getD tok0).text) (cx r i).name (.slice none 0 0) 0 (wr.heap.size + 1) ((wr.alloc (Obj.cells #[.string (cx r i).name, .int .i64 ((cx r i).pos : Int), .slice a (cx r i).names.length c'] 97)).alloc (Obj.cells #[.string (cx r i).name, .slice none 0 0] 76)) := by
          refine ⟨(below1 _ _).alloc (by simp) _, ?_, World.ownsRow_nil _ _ _ _, by omega⟩
          have := blk_new (wr.alloc (Obj.cells #[.string (cx r i).name, .int .i64 ((cx r i).pos : Int), .slice a (cx r i).names.length c'] 97)) (Obj.cells #[.string (cx r i).name, .slice none 0 0] 76)
          rw [World.size_alloc] at this
          exact this
        have heb : ((wr.alloc (Obj.cells #[.string (cx r i).name, .int .i64 ((cx r i).pos : Int), .slice a (cx r i).names.length c'] 97)).alloc (Obj.cells #[.string (cx r i).name, .slice none 0 0] 76)).heap[wr.heap.size]? = _ := blk_alloc (blk_new wr _) _
        clear x0' x1' x2' hrow hwr
        go_upto_region 9 with (fail)
        obtain ⟨wc, hwc⟩ : ∃ wc, wc = (wr.alloc (Obj.cells #[.string (cx r i).name, .int .i64 ((cx r i).pos : Int), .slice a (cx r i).names.length c'] 97)).alloc (Obj.cells #[.string (cx r i).name, .slice none 0 0] 76) := ⟨_, rfl⟩
        rw [← hwc] at hcb heb ⊢
        obtain ⟨E, hE⟩ : ∃ E, E = wr.heap.size := ⟨_, rfl⟩
        have hEz : wr.heap.size ≤ E := by omega
        rw [← hE] at hcb heb ⊢
        have y2 : wc.cell? ⟨E, 2, none⟩ = some (.slice a (cx r i).names.length c') := by rw [blk_cell heb]; rfl
        have lE := blk_lt heb
        have HCB := Lib.hid hcb
        have HEZ := Lib.hid hEz
        clear x0 x1 x2 hwc hE hcb heb hq hq0 hEz
        obtain ⟨nn, hnn⟩ : ∃ nn, nn = (cx r i).names.length := ⟨_, rfl⟩
        rw [← hnn] at y2 hn1 hn32
        have HNN := Lib.hid hnn
        clear hnn
        go_wp2_with fail
        clear y2 lE
        go_loopw [38] (fun v38 wi => ∃ (k : Nat) (vn : Value), v38 = .int .i64 (k : Int) ∧ k ≤ nn ∧ Hid (CInv wr (fun j => (((cx r i).names[j]?).getD tok0).text) (cx r i).name vn k (E + 1) wi)) (fun v38 _ => nn - (intOf v38).toNat)
        case atStart => exact ⟨0, _, rfl, by omega, HCB.out⟩
        case round =>
          obtain ⟨k, vn, rfl, hk, hJ⟩ := hrel
          rename World => wi
          by_cases hkn : k < nn
          · have hkI : (k : Int) < (nn : Int) := by omega
            have HKN := Lib.hid hkn
            have hkl : k < (cx r i).names.length := by rw [← HNN.out]; exact hkn
            obtain ⟨qq, hqa, htk⟩ := HROW.out (by omega)
            subst hqa
            have hqq := ToksIn.lt htk (by omega)
            have hbi : Below w.heap.size w wi := hI.out.below.trans (hJ.out.below.mono hI.out.below.size)
            have hqi : qq < wi.heap.size := Nat.lt_of_lt_of_le hqq hbi.size
            obtain ⟨z0, z1, z2⟩ := (htk.kept (hbi.block qq hqq)) k hkl
            obtain ⟨X, hX⟩ : ∃ X, X = (cx r i).names[k]?.getD tok0 := ⟨_, rfl⟩
            rw [← hX] at z0 z1 z2
            have HX := Lib.hid hX
            have hJ2 := hJ.out.run (below1 wi (Obj.cells #[.int .i64 X.kind, .string X.text, .int .i64 (X.pos : Int)] 41))
            have hTb := blk_new wi (Obj.cells #[.int .i64 X.kind, .string X.text, .int .i64 (X.pos : Int)] 41)
            obtain ⟨wt, hwt⟩ : ∃ wt, wt = wi.alloc (Obj.cells #[.int .i64 X.kind, .string X.text, .int .i64 (X.pos : Int)] 41) := ⟨_, rfl⟩
            rw [← hwt] at hJ2 hTb
            obtain ⟨Tb, hT⟩ : ∃ Tb, Tb = wi.heap.size := ⟨_, rfl⟩
            rw [← hT] at hTb
            have HJ2 := Lib.hid hJ2
            have HTB := Lib.hid hTb
            have hwtz := hJ2.below.size
            clear hbi htk hX hJ2 hTb hqq
            go_upto_region 12 with (fail)
            rw [← hwt, ← hT]
            have x1 : wt.cell? ⟨Tb, 1, none⟩ = some (.string X.text) := by rw [blk_cell HTB.out]; rfl
            have lT := blk_lt HTB.out
            have y1 : wt.cell? ⟨E + 1, 1, none⟩ = some vn := by rw [blk_cell HJ2.out.c]; rfl
            have y0 : wt.cell? ⟨E + 1, 0, none⟩ = some (.string (cx r i).name) := by rw [blk_cell HJ2.out.c]; rfl
            have lC := blk_lt HJ2.out.c
            have hown := HJ2.out.own
            have hd := HEZ.out
            clear z0 z1 z2 hwt hT hqi
            go_wp2_with (at_builtin; refine wpList_append_lies _ rfl _ _ 74 rfl (E + 1 + 1) 9 is (.string ⟨#[]⟩) 1 16 Try.underlying74 his hzs0 hzs1 hzs2 rfl (by decide) _ _ _ rfl (hown.alloc _) ⟨wt.heap.size, 0, none⟩ 1 1 [.string X.text] rfl rfl (cell_one_new _ _ _) (by simp [Value.oneCell']) (by decide) (by unfold maxLen; omega) (by omega) (by simp; omega) _ rfl ?_)
            intro g cap w1 hown1 hgr1 hat hlt
            rw [HX.out] at hown1 hgr1
            have hst := HJ2.out.step hgr1 hown1
            have hC1 : w1.heap[E + 1]? = some (.cells #[.string (cx r i).name, vn] 76 (0, 0)) := (hgr1.block (E + 1) (by simp; omega) (fun e => by have := (HJ2.out.own.lt _ e.symm).1; omega)).trans (blk_alloc HJ2.out.c _)
            have dC1 : w1.cell? ⟨E + 1, 1, none⟩ = some vn := by rw [blk_cell hC1]; rfl
            have eC1 : w1.frozen? ⟨E + 1, 1, none⟩ = false := blk_frozen hC1 _
            have lC1 := blk_lt hC1
            have HST := Lib.hid hst
            clear x1 lT y1 y0 lC hown hst hC1 hown1 hgr1 hat
            go_wp2_with fail
            go_roundw
            case rel => exact ⟨k + 1, _, by go_num, HKN.out, HST.out⟩
            case measure => have := HKN.out; simp [intOf]; omega
          · obtain rfl : k = nn := by omega
            clear hkn
            obtain ⟨gn, cn, rfl, hgn1, hgn2⟩ := hJ.out.own.form (by omega)
            have hstr := strs_of_owned _ hJ.out.own
            rw [HNN.out, map_getD (cx r i).names Tok.text tok0] at hstr
            have hI2 := hI.out.run hJ.out.below
            have hP2 := PInv.run hP.out (fun j => strs_local _) (by omega) hJ.out.below
            have hnn := HNN.out
            subst hnn
            have hvE := fun g hg => hP.out.own.lt g hg
            have hwr := blk_lt hI.out.b4
            have hEz := HEZ.out
            have o1 : wi.cell? ⟨S + 1 + 1 + 1, 1, none⟩ = some vE := by rw [blk_cell hI2.b4]; rfl
            have lO := blk_lt hI2.b4
            have y0 : wi.cell? ⟨E + 1, 0, none⟩ = some (.string (cx r i).name) := by rw [blk_cell hJ.out.c]; rfl
            have y1 : wi.cell? ⟨E + 1, 1, none⟩ = some (.slice (some ⟨gn, 0, none⟩) (cx r i).names.length cn) := by rw [blk_cell hJ.out.c]; rfl
            have lC := blk_lt hJ.out.c
            have how := hP2.own
            have HSTR := Lib.hid hstr
            have HI22 := Lib.hid hI2
            have HP2 := Lib.hid hP2
            have HVE := Lib.hid hvE
            clear hstr hI2 hP2 hvE
            go_wp2_with (at_builtin; refine wpList_append_lies _ rfl _ _ 50 rfl (S + 1 + 1 + 1 + 1) 76 ic (.agg #[.string ⟨#[]⟩, .slice none 0 0]) 2 40 Try.underlying50 hic hzc0 hzc1 hzc2 rfl (by decide) _ _ _ rfl (how.alloc _) ⟨wi.heap.size, 0, none⟩ 1 1 [.string (cx r i).name, .slice (some ⟨gn, 0, none⟩) (cx r i).names.length cn] rfl rfl (cell_two_new _ _ _ _) (by simp [Value.oneCell']) (by decide) (by unfold maxLen; omega) (by omega) (by simp; omega) _ rfl ?_)
            intro g2 cap2 w3 hown2 hgr2 hat2 hlt2
            have hI3 := HI22.out.grow HS.out (fun g hg => by have := (HVE.out g hg).1; omega) hgr2
            have hst := PInv.step (t := 1) (x := .slice (some ⟨g2, 0, none⟩) (i + 1) cap2) HP2.out (fun j => strs_local _) (by omega) (by omega) (by omega) hgn2 (fun e => by have := (HVE.out _ e.symm).2; omega) HSTR.out hgr2 (by simpa using hat2) hown2
            have oO1 : w3.cell? ⟨S + 1 + 1 + 1, 1, none⟩ = some vE := by rw [blk_cell hI3.b4]; rfl
            have fO1 : w3.frozen? ⟨S + 1 + 1 + 1, 1, none⟩ = false := blk_frozen hI3.b4 _
            have lO3 := blk_lt hI3.b4
            have HI3 := Lib.hid hI3
            have HST := Lib.hid hst
            clear hI3 hst hown2 hgr2 hat2 how o1 lO y0 y1 lC
            go_wp2_with fail
            go_roundw
            case rel => exact ⟨i + 1, _, _, by go_num, by omega, HI3.out.setE HS.out _, HST.out⟩
            case measure => simp [intOf]; omega
      · obtain rfl : i = r.enums.length := by omega
        have HIE := Lib.hid hI.out
        have HPE := Lib.hid hP.out
        clear hI hP hin hi
        have r0 : wr.cell? ⟨S, 0, none⟩ = some (.slice a1 r.structs.length c1) := by rw [blk_cell HIE.out.b1]; rfl
        have r1 : wr.cell? ⟨S, 1, none⟩ = some (.slice a2 r.enums.length c2) := by rw [blk_cell HIE.out.b1]; rfl
        have r2 : wr.cell? ⟨S, 2, none⟩ = some (.slice a3 r.roots.length c3) := by rw [blk_cell HIE.out.b1]; rfl
        have p0 : wr.cell? ⟨S + 1, 0, none⟩ = some (.slice none 0 0) := by rw [blk_cell HIE.out.b2]; rfl
        have p1 : wr.cell? ⟨S + 1, 1, none⟩ = some (.slice none 0 0) := by rw [blk_cell HIE.out.b2]; rfl
        have p2 : wr.cell? ⟨S + 1, 2, none⟩ = some (.int .i64 0) := by rw [blk_cell HIE.out.b2]; rfl
        have pf := fun j => blk_frozen HIE.out.b2 j
        have q0 : wr.cell? ⟨S + 1 + 1, 0, none⟩ = some (.int .i64 0) := by rw [blk_cell HIE.out.b3]; rfl
        have q1 : wr.cell? ⟨S + 1 + 1, 1, none⟩ = some (.int .i64 0) := by rw [blk_cell HIE.out.b3]; rfl
        have qf := fun j => blk_frozen HIE.out.b3 j
        have o0 : wr.cell? ⟨S + 1 + 1 + 1, 0, none⟩ = some (.slice none 0 0) := by rw [blk_cell HIE.out.b4]; rfl
        have o1 : wr.cell? ⟨S + 1 + 1 + 1, 1, none⟩ = some vE := by rw [blk_cell HIE.out.b4]; rfl
        have o2 : wr.cell? ⟨S + 1 + 1 + 1, 2, none⟩ = some (.int .i64 0) := by rw [blk_cell HIE.out.b4]; rfl
        have of := fun j => blk_frozen HIE.out.b4 j
        have l1 := blk_lt HIE.out.b1
        have l2 := blk_lt HIE.out.b2
        have l3 := blk_lt HIE.out.b3
        have l4 := blk_lt HIE.out.b4
        go_wp2_with fail
        clear r0 r1 r2 p0 p1 p2 pf q0 q1 qf o0 o1 o2 of l1 l2 l3 l4
        obtain ⟨W1, hW1⟩ : ∃ W1 : World, W1 = wr := ⟨_, rfl⟩
        subst hW1
        go_loopw [60] (fun v60 wr => ∃ (i : Nat) (vS : Value) (vg : Nat → Value), v60 = .int .i64 (i : Int) ∧ i ≤ r.structs.length ∧ Hid (MkI w S #[.slice a1 r.structs.length c1, .slice a2 r.enums.length c2, .slice a3 r.roots.length c3] vS vE wr) ∧ Hid (RecsI r W1.heap.size (S + 1 + 1 + 1) vS i vg wr) ∧ Hid (∀ b, b < W1.heap.size → b ≠ S + 1 + 1 + 1 → wr.heap[b]? = W1.heap[b]?) ∧ Hid (W1.heap.size ≤ wr.heap.size) ∧ Hid (∀ j, j < i → recB r j = none)) (fun v60 _ => r.structs.length - (intOf v60).toNat)
        case atStart => exact ⟨0, _, fun _ => undef, rfl, by omega, HIE.out, PInv.nil _ _ _ _ _ _ _ _, fun b _ _ => rfl, Nat.le_refl _, fun j hj => absurd hj (by omega)⟩
        case round =>
          obtain ⟨i, vS, vg, rfl, hi, hI, hP, hK, hZ, hBs⟩ := hrel
          rename World => wr
          by_cases hin : i < r.structs.length
          · have hiI : (i : Int) < (r.structs.length : Int) := by omega
            obtain ⟨hi8, hn1, hn32⟩ := (namesI_ok HNM.out).2 i hin
            have hib : (i : Int) ≤ 3000 := by omega
            have hmem := rx_mem hin
            have hfsz := (HSZ.out.s _ hmem).2
            obtain ⟨q, a, c', rfl, hq0, x0', x1', x2', hrow⟩ := HR.out.s i hin
            have hwr := hI.out.below.size
            have hq : q < wr.heap.size := by omega
            have x0 := cell_kept x0' hI.out.below
            have x1 := cell_kept x1' hI.out.below
            have x2 := cell_kept x2' hI.out.below
            have HROW := Lib.hid hrow
            have HFSZ := Lib.hid hfsz
            have hcb : RInv wr (fun j => fieldO r (fx (rx r i) j)) (rx r i).name (.slice none 0 0) 0 (wr.heap.size + 1) ((wr.alloc (Obj.cells #[.string (rx r i).name, .int .i64 ((rx r i).pos : Int), .slice a (rx r i).fields.length c'] 35)).alloc (Obj.cells #[.string (rx r i).name, .slice none 0 0] 73)) := by
              refine ⟨(below1 _ _).alloc (by simp) _, ?_, World.ownsRow_nil _ _ _ _, by omega⟩
              have := blk_new (wr.alloc (Obj.cells #[.string (rx r i).name, .int .i64 ((rx r i).pos : Int), .slice a (rx r i).fields.length c'] 35)) (Obj.cells #[.string (rx r i).name, .slice none 0 0] 73)
              rw [World.size_alloc] at this
              exact this
            have heb : ((wr.alloc (Obj.cells #[.string (rx r i).name, .int .i64 ((rx r i).pos : Int), .slice a (rx r i).fields.length c'] 35)).alloc (Obj.cells #[.string (rx r i).name, .slice none 0 0] 73)).heap[wr.heap.size]? = _ := blk_alloc (blk_new wr _) _
            clear x0' x1' x2' hrow hwr hmem hfsz
            go_upto_region 20 with (fail)
            obtain ⟨wc, hwc⟩ : ∃ wc, wc = (wr.alloc (Obj.cells #[.string (rx r i).name, .int .i64 ((rx r i).pos : Int), .slice a (rx r i).fields.length c'] 35)).alloc (Obj.cells #[.string (rx r i).name, .slice none 0 0] 73) := ⟨_, rfl⟩
            rw [← hwc] at hcb heb ⊢
            obtain ⟨E, hE⟩ : ∃ E, E = wr.heap.size := ⟨_, rfl⟩
            have hEz : wr.heap.size ≤ E := by omega
            rw [← hE] at hcb heb ⊢
            have y2 : wc.cell? ⟨E, 2, none⟩ = some (.slice a (rx r i).fields.length c') := by rw [blk_cell heb]; rfl
            have lE := blk_lt heb
            have HCB := Lib.hid hcb
            have HEZ := Lib.hid hEz
            clear x0 x1 x2 hwc hE hcb heb hq hq0 hEz
            obtain ⟨nn, hnn⟩ : ∃ nn, nn = (rx r i).fields.length := ⟨_, rfl⟩
            rw [← hnn] at y2 hn1 hn32
            have HNN := Lib.hid hnn
            clear hnn
            go_wp2_with fail
            clear y2 lE
            go_loopw [70] (fun v70 wi => ∃ (k : Nat) (vn : Value), v70 = .int .i64 (k : Int) ∧ k ≤ nn ∧ Hid (RInv wr (fun j => fieldO r (fx (rx r i) j)) (rx r i).name vn k (E + 1) wi) ∧ Hid (∀ j, j < k → fieldB r (fx (rx r i) j) = none)) (fun v70 _ => nn - (intOf v70).toNat)
            case atStart => exact ⟨0, _, rfl, by omega, HCB.out, fun j hj => absurd hj (by omega)⟩
            case round =>
              obtain ⟨k, vn, rfl, hk, hJ, hFB⟩ := hrel
              rename World => wi
              by_cases hkn : k < nn
              · have hkI : (k : Int) < (nn : Int) := by omega
                have HKN := Lib.hid hkn
                have hkl : k < (rx r i).fields.length := by rw [← HNN.out]; exact hkn
                have hXsz := (HFSZ.out (fx (rx r i) k) (by unfold fx; rw [List.getElem?_eq_getElem hkl]; exact List.getElem_mem hkl)).d
                obtain ⟨qq, hqa, hqq, htk⟩ := HROW.out (by omega)
                subst hqa
                have hbi : Below w.heap.size w wi := hI.out.below.trans (hJ.out.below.mono hI.out.below.size)
                have hqi : qq < wi.heap.size := Nat.lt_of_lt_of_le hqq hbi.size
                obtain ⟨z0, z1, z2, z3, z4, z5, z6, z7⟩ := (htk k hkl).below hbi
                obtain ⟨X, hX⟩ : ∃ X, X = fx (rx r i) k := ⟨_, rfl⟩
                rw [← hX] at z0 z1 z2 z3 z4 z5 z6 z7 hXsz
                have HX := Lib.hid hX
                have HXSZ := Lib.hid hXsz
                have hbt := below1 wi (Obj.cells #[.string X.name, .int .i64 (X.pos : Int), .string X.ty.name, .int .i64 (X.ty.lists : Int), .int .i64 (X.ty.pos : Int), .int .i64 X.df.kind, .string X.df.text, .int .i64 (X.df.pos : Int)] 43)
                have hJ2 := hJ.out.run hbt
                have hTb := blk_new wi (Obj.cells #[.string X.name, .int .i64 (X.pos : Int), .string X.ty.name, .int .i64 (X.ty.lists : Int), .int .i64 (X.ty.pos : Int), .int .i64 X.df.kind, .string X.df.text, .int .i64 (X.df.pos : Int)] 43)
                obtain ⟨wt, hwt⟩ : ∃ wt, wt = wi.alloc (Obj.cells #[.string X.name, .int .i64 (X.pos : Int), .string X.ty.name, .int .i64 (X.ty.lists : Int), .int .i64 (X.ty.pos : Int), .int .i64 X.df.kind, .string X.df.text, .int .i64 (X.df.pos : Int)] 43) := ⟨_, rfl⟩
                rw [← hwt] at hJ2 hTb
                obtain ⟨Tb, hT⟩ : ∃ Tb, Tb = wi.heap.size := ⟨_, rfl⟩
                rw [← hT] at hTb
                have HJ2 := Lib.hid hJ2
                have HTB := Lib.hid hTb
                have HIT := Lib.hid (hI.out.run hJ2.below)
                clear hbi htk hX hJ2 hTb hqq hbt hXsz
                go_upto_region 23 with (fail)
                rw [← hwt, ← hT]
                have x0 : wt.cell? ⟨Tb, 0, none⟩ = some (.string X.name) := by rw [blk_cell HTB.out]; rfl
                have x1 : wt.cell? ⟨Tb, 1, none⟩ = some (.int .i64 (X.pos : Int)) := by rw [blk_cell HTB.out]; rfl
                have x2 : wt.cell? ⟨Tb, 2, none⟩ = some (.string X.ty.name) := by rw [blk_cell HTB.out]; rfl
                have x3 : wt.cell? ⟨Tb, 3, none⟩ = some (.int .i64 (X.ty.lists : Int)) := by rw [blk_cell HTB.out]; rfl
                have x4 : wt.cell? ⟨Tb, 4, none⟩ = some (.int .i64 (X.ty.pos : Int)) := by rw [blk_cell HTB.out]; rfl
                have x5 : wt.cell? ⟨Tb, 5, none⟩ = some (.int .i64 X.df.kind) := by rw [blk_cell HTB.out]; rfl
                have x6 : wt.cell? ⟨Tb, 6, none⟩ = some (.string X.df.text) := by rw [blk_cell HTB.out]; rfl
                have x7 : wt.cell? ⟨Tb, 7, none⟩ = some (.int .i64 (X.df.pos : Int)) := by rw [blk_cell HTB.out]; rfl
                have lT := blk_lt HTB.out
                have r0 : wt.cell? ⟨S, 0, none⟩ = some (.slice (some ⟨q, 0, none⟩) r.structs.length c1) := by rw [blk_cell HIT.out.b1]; rfl
                have r1 : wt.cell? ⟨S, 1, none⟩ = some (.slice a2 r.enums.length c2) := by rw [blk_cell HIT.out.b1]; rfl
                have r2 : wt.cell? ⟨S, 2, none⟩ = some (.slice a3 r.roots.length c3) := by rw [blk_cell HIT.out.b1]; rfl
                have lS := blk_lt HIT.out.b1
                clear z0 z1 z2 z3 z4 z5 z6 z7 hwt hT hqi
                go_wp2_with fail
                clear x0 x1 x2 x3 x4 x5 x6 x7 lT r0 r1 r2 lS
                have hcal := sfield_calls r HBD.out (some ⟨q, 0, none⟩) a2 a3 c1 c2 c3 X HXSZ.out wt (HR.out.below HIT.out.below)
                have hcal2 : Calls _ _ #[.agg #[.slice (some ⟨q, 0, none⟩) r.structs.length c1, .slice a2 r.enums.length c2, .slice a3 r.roots.length c3], .agg #[.string X.name, .int .i64 (X.pos : Int), .string X.ty.name, .int .i64 (X.ty.lists : Int), .int .i64 (X.ty.pos : Int), .int .i64 X.df.kind, .string X.df.text, .int .i64 (X.df.pos : Int)]] wt (FieldPost (fieldI r X) wt) := hcal
                refine hcal2.mono ?_
                intro e w5 hfp
                have HJ5 := Lib.hid (HJ2.out.run hfp.below)
                have HI5 := Lib.hid (HIT.out.run hfp.below)
                clear hcal hcal2
                have hwtw := hfp.below.size
                cases hfx : fieldI r X with
                | error x =>
                  obtain ⟨c, p⟩ := x
                  have he := hfp.err c p hfx
                  subst he
                  have hbad : makeI r = .error (c, p) := by
                    have h1 : fieldB r (fx (rx r i) k) = some (c, p) := by rw [← HX.out]; unfold fieldB; rw [hfx]
                    have h2 : recB r i = some (c, p) := firstBad_some hkl h1 hFB.out
                    rw [HMK2.out, firstBad_some hin h2 hBs.out]
                  have HMK3 := Lib.hid hbad
                  have hcc := fieldI_code hfx
                  have hc0 : (c != 0) = true := by rw [bne_iff_ne]; omega
                  have hc1' : decide (c = 0) = false := decide_eq_false (by omega)
                  have hb6 : Below w5.heap.size w5 ((w5.alloc (Obj.cells #[.string ⟨#[]⟩, .int .u8 0, .int .i64 0, .int .i64 0, .int .u64 0] 70)).alloc (Obj.cells #[.int .i64 c, .int .i64 (p : Int)] 30)) := (below1 _ _).alloc (by simp) _
                  have hfb : ((w5.alloc (Obj.cells #[.string ⟨#[]⟩, .int .u8 0, .int .i64 0, .int .i64 0, .int .u64 0] 70)).alloc (Obj.cells #[.int .i64 c, .int .i64 (p : Int)] 30)).heap[w5.heap.size + 1]? = some (.cells #[.int .i64 c, .int .i64 (p : Int)] 30 (0, 0)) := by
                    have := blk_new (w5.alloc (Obj.cells #[.string ⟨#[]⟩, .int .u8 0, .int .i64 0, .int .i64 0, .int .u64 0] 70)) (Obj.cells #[.int .i64 c, .int .i64 (p : Int)] 30)
                    rw [World.size_alloc] at this
                    exact this
                  have HI6 := Lib.hid (HI5.out.run hb6)
                  obtain ⟨w6, hw6⟩ : ∃ w6, w6 = (w5.alloc (Obj.cells #[.string ⟨#[]⟩, .int .u8 0, .int .i64 0, .int .i64 0, .int .u64 0] 70)).alloc (Obj.cells #[.int .i64 c, .int .i64 (p : Int)] 30) := ⟨_, rfl⟩
                  rw [← hw6] at HI6 hfb
                  obtain ⟨Fb, hFb⟩ : ∃ Fb, Fb = w5.heap.size + 1 := ⟨_, rfl⟩
                  have hFG : S + 1 + 1 + 1 < Fb := by have := blk_lt HI5.out.b4; omega
                  rw [← hFb] at hfb
                  have HFB := Lib.hid hfb
                  clear hfp hfx hbad hcc hb6 hfb hwtw
                  go_upto_region 24 with (fail)
                  rw [← hw6, ← hFb]
                  clear hw6 hFb
                  have z0 : w6.cell? ⟨Fb, 0, none⟩ = some (.int .i64 c) := by rw [blk_cell HFB.out]; rfl
                  have z1 : w6.cell? ⟨Fb, 1, none⟩ = some (.int .i64 (p : Int)) := by rw [blk_cell HFB.out]; rfl
                  have lF := blk_lt HFB.out
                  have r0 : w6.cell? ⟨S, 0, none⟩ = some (.slice (some ⟨q, 0, none⟩) r.structs.length c1) := by rw [blk_cell HI6.out.b1]; rfl
                  have r1 : w6.cell? ⟨S, 1, none⟩ = some (.slice a2 r.enums.length c2) := by rw [blk_cell HI6.out.b1]; rfl
                  have r2 : w6.cell? ⟨S, 2, none⟩ = some (.slice a3 r.roots.length c3) := by rw [blk_cell HI6.out.b1]; rfl
                  have p0 : w6.cell? ⟨S + 1, 0, none⟩ = some (.slice none 0 0) := by rw [blk_cell HI6.out.b2]; rfl
                  have p1 : w6.cell? ⟨S + 1, 1, none⟩ = some (.slice none 0 0) := by rw [blk_cell HI6.out.b2]; rfl
                  have p2 : w6.cell? ⟨S + 1, 2, none⟩ = some (.int .i64 0) := by rw [blk_cell HI6.out.b2]; rfl
                  have pf := fun j => blk_frozen HI6.out.b2 j
                  have q0 : w6.cell? ⟨S + 1 + 1, 0, none⟩ = some (.int .i64 0) := by rw [blk_cell HI6.out.b3]; rfl
                  have q1 : w6.cell? ⟨S + 1 + 1, 1, none⟩ = some (.int .i64 0) := by rw [blk_cell HI6.out.b3]; rfl
                  have qf := fun j => blk_frozen HI6.out.b3 j
                  have o0 : w6.cell? ⟨S + 1 + 1 + 1, 0, none⟩ = some vS := by rw [blk_cell HI6.out.b4]; rfl
                  have o1 : w6.cell? ⟨S + 1 + 1 + 1, 1, none⟩ = some vE := by rw [blk_cell HI6.out.b4]; rfl
                  have o2 : w6.cell? ⟨S + 1 + 1 + 1, 2, none⟩ = some (.int .i64 0) := by rw [blk_cell HI6.out.b4]; rfl
                  have of := fun j => blk_frozen HI6.out.b4 j
                  have l1 := blk_lt HI6.out.b1
                  have l2 := blk_lt HI6.out.b2
                  have l3 := blk_lt HI6.out.b3
                  have l4 := blk_lt HI6.out.b4
                  go_wp2_with fail
                  go_region
                  all_goals (try go_wp2_with fail)
                  all_goals refine bodyPost_ret (v := .tuple #[.agg #[.slice none 0 0, .slice none 0 0, .int .i64 0], .agg #[.int .i64 c, .int .i64 (p : Int)]]) (by simp [results, Try.results31, go_sem, *]) rfl ?_
                  all_goals rw [HMK3.out]
                  all_goals refine MakePost.mk_err rfl ?_
                  all_goals have hB := HI6.out.below
                  all_goals have hS := HS.out
                  all_goals (repeat' (first | (with_reducible exact Below.refl _ _) | (with_reducible assumption) | (with_reducible refine below_drewN ?_ _) | (with_reducible refine Below.alloc ?_ ?_ _) | (with_reducible refine Below.drew ?_) | (with_reducible refine Below.setCell ?_ ?_ _) | (with_reducible refine Below.trans ?_ (Below.mono (by assumption) ?_)) | go_size))
                | ok g =>
                  have he := hfp.ok g hfx
                  subst he
                  have hfk : fieldO r (fx (rx r i) k) = g := by rw [← HX.out]; unfold fieldO; rw [hfx]
                  have hfn : fieldB r (fx (rx r i) k) = none := by rw [← HX.out]; unfold fieldB; rw [hfx]
                  have hb6 : Below w5.heap.size w5 ((w5.alloc (Obj.cells #[.string g.name, .int .u8 g.kind, .int .i64 g.ref, .int .i64 g.lists, .int .u64 g.df] 70)).alloc (Obj.cells #[.int .i64 0, .int .i64 0] 30)) := (below1 _ _).alloc (by simp) _
                  have hgb : ((w5.alloc (Obj.cells #[.string g.name, .int .u8 g.kind, .int .i64 g.ref, .int .i64 g.lists, .int .u64 g.df] 70)).alloc (Obj.cells #[.int .i64 0, .int .i64 0] 30)).heap[w5.heap.size]? = some (.cells #[.string g.name, .int .u8 g.kind, .int .i64 g.ref, .int .i64 g.lists, .int .u64 g.df] 70 (0, 0)) := blk_alloc (blk_new _ _) _
                  have HJ6 := Lib.hid (HJ5.out.run hb6)
                  obtain ⟨w6, hw6⟩ : ∃ w6, w6 = (w5.alloc (Obj.cells #[.string g.name, .int .u8 g.kind, .int .i64 g.ref, .int .i64 g.lists, .int .u64 g.df] 70)).alloc (Obj.cells #[.int .i64 0, .int .i64 0] 30) := ⟨_, rfl⟩
                  rw [← hw6] at HJ6 hgb
                  obtain ⟨Fq, hFq⟩ : ∃ Fq, Fq = w5.heap.size := ⟨_, rfl⟩
                  rw [← hFq] at hgb
                  have HGB := Lib.hid hgb
                  have HFK := Lib.hid hfk
                  have HFN := Lib.hid hfn
                  clear hfp hfx hfk hfn hb6 hgb hwtw
                  go_upto_region 26 with (fail)
                  rw [← hw6, ← hFq]
                  clear hw6 hFq
                  have z0 : w6.cell? ⟨Fq, 0, none⟩ = some (.string g.name) := by rw [blk_cell HGB.out]; rfl
                  have z1 : w6.cell? ⟨Fq, 1, none⟩ = some (.int .u8 g.kind) := by rw [blk_cell HGB.out]; rfl
                  have z2 : w6.cell? ⟨Fq, 2, none⟩ = some (.int .i64 g.ref) := by rw [blk_cell HGB.out]; rfl
                  have z3 : w6.cell? ⟨Fq, 3, none⟩ = some (.int .i64 g.lists) := by rw [blk_cell HGB.out]; rfl
                  have z4 : w6.cell? ⟨Fq, 4, none⟩ = some (.int .u64 g.df) := by rw [blk_cell HGB.out]; rfl
                  have lF := blk_lt HGB.out
                  have y1 : w6.cell? ⟨E + 1, 1, none⟩ = some vn := by rw [blk_cell HJ6.out.c]; rfl
                  have lC := blk_lt HJ6.out.c
                  have hown := HJ6.out.own
                  have hd := HEZ.out
                  have hz6 := HJ6.out.below.size
                  go_wp2_with (at_builtin; refine wpList_append_lies _ rfl _ _ 71 rfl (E + 1 + 1) 70 fi (.agg #[.string ⟨#[]⟩, .int .u8 0, .int .i64 0, .int .i64 0, .int .u64 0]) 5 48 Try.underlying71 hfi hzf0 hzf1 hzf2 rfl (by decide) _ _ _ rfl (hown.alloc _) ⟨w6.heap.size, 0, none⟩ 1 1 [.string g.name, .int .u8 g.kind, .int .i64 g.ref, .int .i64 g.lists, .int .u64 g.df] rfl rfl (news_five _ _ _ _ _ _ _) (by simp [Value.oneCell']) (by decide) (by unfold maxLen; omega) (by omega) (by simp; omega) _ rfl ?_)
                  intro g5 cap w7 hown7 hgr7 hat hlt
                  have hst := RInv.step (k := k) HJ6.out (by simp only [HFK.out]; exact hgr7) (by simp only [HFK.out]; exact hown7)
                  have hC1 : w7.heap[E + 1]? = some (.cells #[.string (rx r i).name, vn] 73 (0, 0)) := (hgr7.block (E + 1) (by simp; omega) (fun e => by have := (HJ6.out.own.lt _ e.symm).1; omega)).trans (blk_alloc HJ6.out.c _)
                  have dC1 : w7.cell? ⟨E + 1, 1, none⟩ = some vn := by rw [blk_cell hC1]; rfl
                  have eC1 : w7.frozen? ⟨E + 1, 1, none⟩ = false := blk_frozen hC1 _
                  have lC1 := blk_lt hC1
                  have HST := Lib.hid hst
                  clear z0 z1 z2 z3 z4 lF y1 lC hown hst hC1 hown7 hgr7 hat
                  go_wp2_with fail
                  go_roundw
                  case rel => exact ⟨k + 1, _, by go_num, HKN.out, HST.out, fun j hj => by
                    by_cases e : j = k
                    · subst e; exact HFN.out
                    · exact hFB.out j (by omega)⟩
                  case measure => have := HKN.out; simp [intOf]; omega
              · obtain rfl : k = nn := by omega
                clear hkn
                obtain ⟨gn, cn, hv, hgn1, hgn2, hfr⟩ := own_fives (fun j => fieldO r (fx (rx r i) j)) hJ.out.own (by omega)
                subst hv
                have hfr2 : FieldsRow wi gn (recO r (rx r i)).fields := by
                  have e : (recO r (rx r i)).fields = (List.range k).map (fun j => fieldO r (fx (rx r i) j)) := by rw [HNN.out]; exact (map_getD (rx r i).fields (fieldO r) fld0).symm
                  rw [e]; exact hfr
                have hI2 := hI.out.run hJ.out.below
                have hP2 := PInv.run hP.out (fun j => fields_local _) (by have := blk_lt HIE.out.b4; omega) hJ.out.below
                have hrb : recB r i = none := firstBad_none.2 (by rw [← HNN.out]; exact hFB.out)
                have hnn := HNN.out
                subst hnn
                have hvS := fun g hg => hP.out.own.lt g hg
                have hwr := blk_lt hI.out.b4
                have hW1 := blk_lt HIE.out.b4
                have hZo := hZ.out
                have hEz := HEZ.out
                have o0 : wi.cell? ⟨S + 1 + 1 + 1, 0, none⟩ = some vS := by rw [blk_cell hI2.b4]; rfl
                have lO := blk_lt hI2.b4
                have y0 : wi.cell? ⟨E + 1, 0, none⟩ = some (.string (rx r i).name) := by rw [blk_cell hJ.out.c]; rfl
                have y1 : wi.cell? ⟨E + 1, 1, none⟩ = some (.slice (some ⟨gn, 0, none⟩) (rx r i).fields.length cn) := by rw [blk_cell hJ.out.c]; rfl
                have lC := blk_lt hJ.out.c
                have how := hP2.own
                have hji := hJ.out.below.size
                have HFR := Lib.hid hfr2
                have HI22 := Lib.hid hI2
                have HP2 := Lib.hid hP2
                have HVS := Lib.hid hvS
                have HRB := Lib.hid hrb
                clear hfr hfr2 hI2 hP2 hvS hrb
                go_wp2_with (at_builtin; refine wpList_append_lies _ rfl _ _ 49 rfl W1.heap.size 73 ir (.agg #[.string ⟨#[]⟩, .slice none 0 0]) 2 40 Try.underlying49 hir hzr0 hzr1 hzr2 rfl (by decide) _ _ _ rfl (how.alloc _) ⟨wi.heap.size, 0, none⟩ 1 1 [.string (rx r i).name, .slice (some ⟨gn, 0, none⟩) (rx r i).fields.length cn] rfl rfl (cell_two_new _ _ _ _) (by simp [Value.oneCell']) (by decide) (by unfold maxLen; omega) (by omega) (by simp; omega) _ rfl ?_)
                intro g2 cap2 w3 hown2 hgr2 hat2 hlt2
                have hI3 := HI22.out.grow HS.out (fun g hg => by have := (HVS.out g hg).1; omega) hgr2
                have hst := PInv.step (t := 0) (x := .slice (some ⟨g2, 0, none⟩) (i + 1) cap2) HP2.out (fun j => fields_local _) (by omega) (by omega) (by omega) hgn2 (fun e => by have := (HVS.out _ e.symm).2; omega) HFR.out hgr2 (by simpa using hat2) hown2
                have hkp : ∀ b, b < W1.heap.size → b ≠ S + 1 + 1 + 1 → (w3.setCell ⟨S + 1 + 1 + 1, 0, none⟩ (.slice (some ⟨g2, 0, none⟩) (i + 1) cap2)).heap[b]? = W1.heap[b]? := fun b hb hn => by
                  rw [Below.heap_setCell _ _ _ _ (by show b ≠ S + 1 + 1 + 1; exact hn)]
                  exact ((hgr2.block b (by simp; omega) (fun e => by have := (HVS.out _ e.symm).1; omega)).trans ((Below.heap_alloc _ _ _ (by omega)).trans (hJ.out.below.block b (by omega)))).trans (hK.out b hb hn)
                have hz3 : W1.heap.size ≤ w3.heap.size := by have := hgr2.size; simp at this; omega
                have oO1 : w3.cell? ⟨S + 1 + 1 + 1, 0, none⟩ = some vS := by rw [blk_cell hI3.b4]; rfl
                have fO1 : w3.frozen? ⟨S + 1 + 1 + 1, 0, none⟩ = false := blk_frozen hI3.b4 _
                have lO3 := blk_lt hI3.b4
                have HI3 := Lib.hid hI3
                have HST := Lib.hid hst
                have HKP := Lib.hid hkp
                clear hI3 hst hown2 hgr2 hat2 how o0 lO y0 y1 lC hkp
                go_wp2_with fail
                go_roundw
                case rel => exact ⟨i + 1, _, _, by go_num, by omega, HI3.out.setS HS.out _, HST.out, HKP.out, by rw [World.size_setCell]; exact hz3, fun j hj => by
                  by_cases e : j = i
                  · subst e; exact HRB.out
                  · exact hBs.out j (by omega)⟩
                case measure => simp [intOf]; omega
          · obtain rfl : i = r.structs.length := by omega
            have hall : firstBad r.structs.length (recB r) = none := firstBad_none.2 hBs.out
            have hmk3 : makeI r = match rootI r with
                | .error x => .error x
                | .ok i => .ok ⟨r.structs.map (recO r), r.enums.map choO, (i : Int)⟩ := by rw [HMK2.out, hall]
            have HMK3 := Lib.hid hmk3
            obtain ⟨aS, cS, rfl⟩ := own_len hP.out.own
            obtain ⟨aE, cE, rfl⟩ := own_len HPE.out.own
            have HIF := Lib.hid hI.out
            have HPF := Lib.hid hP.out
            have HKF := Lib.hid hK.out
            have HZF := Lib.hid hZ.out
            have HNS := Lib.hid (fun i hi => (namesI_ok HNM.out).2 i hi)
            clear hall hmk3 hBs hI hP hK hZ hin hi HMK2
            cases hroots : r.roots with
            | nil =>
              have hl : r.roots.length = 0 := by rw [hroots]; rfl
              have hmk4 : makeI r = .error (17, 0) := by rw [HMK3.out, rootI, hroots]
              have HMK4 := Lib.hid hmk4
              have d0 : ((r.roots.length : Int) == 0) = true := by rw [hl]; rfl
              have d0' : decide ((r.roots.length : Int) = 0) = true := by rw [hl]; rfl
              clear hl hmk4 hroots
              have r0 : wr.cell? ⟨S, 0, none⟩ = some (.slice a1 r.structs.length c1) := by rw [blk_cell HIF.out.b1]; rfl
              have r1 : wr.cell? ⟨S, 1, none⟩ = some (.slice a2 r.enums.length c2) := by rw [blk_cell HIF.out.b1]; rfl
              have r2 : wr.cell? ⟨S, 2, none⟩ = some (.slice a3 r.roots.length c3) := by rw [blk_cell HIF.out.b1]; rfl
              have p0 : wr.cell? ⟨S + 1, 0, none⟩ = some (.slice none 0 0) := by rw [blk_cell HIF.out.b2]; rfl
              have p1 : wr.cell? ⟨S + 1, 1, none⟩ = some (.slice none 0 0) := by rw [blk_cell HIF.out.b2]; rfl
              have p2 : wr.cell? ⟨S + 1, 2, none⟩ = some (.int .i64 0) := by rw [blk_cell HIF.out.b2]; rfl
              have pf := fun j => blk_frozen HIF.out.b2 j
              have q0 : wr.cell? ⟨S + 1 + 1, 0, none⟩ = some (.int .i64 0) := by rw [blk_cell HIF.out.b3]; rfl
              have q1 : wr.cell? ⟨S + 1 + 1, 1, none⟩ = some (.int .i64 0) := by rw [blk_cell HIF.out.b3]; rfl
              have qf := fun j => blk_frozen HIF.out.b3 j
              have o0 : wr.cell? ⟨S + 1 + 1 + 1, 0, none⟩ = some (.slice aS r.structs.length cS) := by rw [blk_cell HIF.out.b4]; rfl
              have o1 : wr.cell? ⟨S + 1 + 1 + 1, 1, none⟩ = some (.slice aE r.enums.length cE) := by rw [blk_cell HIF.out.b4]; rfl
              have o2 : wr.cell? ⟨S + 1 + 1 + 1, 2, none⟩ = some (.int .i64 0) := by rw [blk_cell HIF.out.b4]; rfl
              have of := fun j => blk_frozen HIF.out.b4 j
              have l1 := blk_lt HIF.out.b1
              have l2 := blk_lt HIF.out.b2
              have l3 := blk_lt HIF.out.b3
              have l4 := blk_lt HIF.out.b4
              go_wp2_with fail
              all_goals refine bodyPost_ret (v := .tuple #[.agg #[.slice none 0 0, .slice none 0 0, .int .i64 0], .agg #[.int .i64 17, .int .i64 (0 : Int)]]) (by simp [results, Try.results31, go_sem, *]) rfl ?_
              all_goals rw [HMK4.out]
              all_goals refine MakePost.mk_err rfl ?_
              all_goals have hB := HIF.out.below
              all_goals have hS := HS.out
              all_goals (repeat' (first | (with_reducible exact Below.refl _ _) | (with_reducible assumption) | (with_reducible refine below_drewN ?_ _) | (with_reducible refine Below.alloc ?_ ?_ _) | (with_reducible refine Below.drew ?_) | (with_reducible refine Below.setCell ?_ ?_ _) | (with_reducible refine Below.trans ?_ (Below.mono (by assumption) ?_)) | go_size))
            | cons t0 ts =>
              obtain ⟨qq, hqa, htk⟩ := HR.out.r (by rw [hroots]; simp)
              have hqq := ToksIn.lt htk (by rw [hroots]; simp)
              have hqr : qq < wr.heap.size := Nat.lt_of_lt_of_le hqq HIF.out.below.size
              have htr := htk.kept (HIF.out.below.block qq hqq)
              cases ts with
              | nil =>
                have hl : r.roots.length = 1 := by rw [hroots]; rfl
                obtain ⟨_, z1, z2⟩ := htr 0 (by omega)
                rw [hroots] at z1 z2
                have z1 : wr.cell? ⟨qq, 1, none⟩ = some (.string t0.text) := z1
                have z2 : wr.cell? ⟨qq, 2, none⟩ = some (.int .i64 (t0.pos : Int)) := z2
                have hri : rootI r = match recIx r t0.text with | some i => .ok i | none => .error (17, t0.pos) := by rw [rootI, hroots]; rfl
                have HRI := Lib.hid hri
                have HZ2 := Lib.hid z2
                have HZ1 := Lib.hid z1
                have d0 : ((r.roots.length : Int) == 0) = false := by rw [hl]; rfl
                have d0' : decide ((r.roots.length : Int) = 0) = false := by rw [hl]; rfl
                have d1 : decide ((1 : Int) < (r.roots.length : Int)) = false := by rw [hl]; rfl
                have hnr : (0 : Int) < (r.roots.length : Int) := by omega
                have hnrN : 0 < r.roots.length := by omega
                clear hl hroots hri htr htk
                have r0 : wr.cell? ⟨S, 0, none⟩ = some (.slice a1 r.structs.length c1) := by rw [blk_cell HIF.out.b1]; rfl
                have r1 : wr.cell? ⟨S, 1, none⟩ = some (.slice a2 r.enums.length c2) := by rw [blk_cell HIF.out.b1]; rfl
                have r2 : wr.cell? ⟨S, 2, none⟩ = some (.slice a3 r.roots.length c3) := by rw [blk_cell HIF.out.b1]; rfl
                have p0 : wr.cell? ⟨S + 1, 0, none⟩ = some (.slice none 0 0) := by rw [blk_cell HIF.out.b2]; rfl
                have p1 : wr.cell? ⟨S + 1, 1, none⟩ = some (.slice none 0 0) := by rw [blk_cell HIF.out.b2]; rfl
                have p2 : wr.cell? ⟨S + 1, 2, none⟩ = some (.int .i64 0) := by rw [blk_cell HIF.out.b2]; rfl
                have pf := fun j => blk_frozen HIF.out.b2 j
                have q0 : wr.cell? ⟨S + 1 + 1, 0, none⟩ = some (.int .i64 0) := by rw [blk_cell HIF.out.b3]; rfl
                have q1 : wr.cell? ⟨S + 1 + 1, 1, none⟩ = some (.int .i64 0) := by rw [blk_cell HIF.out.b3]; rfl
                have qf := fun j => blk_frozen HIF.out.b3 j
                have o0 : wr.cell? ⟨S + 1 + 1 + 1, 0, none⟩ = some (.slice aS r.structs.length cS) := by rw [blk_cell HIF.out.b4]; rfl
                have o1 : wr.cell? ⟨S + 1 + 1 + 1, 1, none⟩ = some (.slice aE r.enums.length cE) := by rw [blk_cell HIF.out.b4]; rfl
                have o2 : wr.cell? ⟨S + 1 + 1 + 1, 2, none⟩ = some (.int .i64 0) := by rw [blk_cell HIF.out.b4]; rfl
                have of := fun j => blk_frozen HIF.out.b4 j
                have l1 := blk_lt HIF.out.b1
                have l2 := blk_lt HIF.out.b2
                have l3 := blk_lt HIF.out.b3
                have l4 := blk_lt HIF.out.b4
                go_wp2_with fail
                have r2' := r2
                rw [hqa] at r2'
                have hp := pred_makeRec t0.text S qq r.roots.length c3 wr hnrN l1 hqr r2' z1
                clear r0 r1 r2 p0 p1 p2 pf q0 q1 qf o0 o1 o2 of l1 l2 l3 l4
                refine (ixRec_calls r (by have := HBD.out.s; omega) a1 a2 a3 c1 wr (HR.out.below HIF.out.below) 52 _ t0.text hp (enters_of Try.func52 (by kernel_rfl) rfl)).mono ?_
                rintro e w8 ⟨rfl, hB8⟩
                have HI8 := Lib.hid (HIF.out.run hB8)
                have z1 := cell_kept HZ1.out hB8
                have z2 := cell_kept HZ2.out hB8
                have hq8 : qq < w8.heap.size := Nat.lt_of_lt_of_le hqr hB8.size
                have HB8 := Lib.hid hB8
                clear hp hB8 hqr r2'
                have r0 : w8.cell? ⟨S, 0, none⟩ = some (.slice a1 r.structs.length c1) := by rw [blk_cell HI8.out.b1]; rfl
                have r1 : w8.cell? ⟨S, 1, none⟩ = some (.slice a2 r.enums.length c2) := by rw [blk_cell HI8.out.b1]; rfl
                have r2 : w8.cell? ⟨S, 2, none⟩ = some (.slice a3 r.roots.length c3) := by rw [blk_cell HI8.out.b1]; rfl
                have p0 : w8.cell? ⟨S + 1, 0, none⟩ = some (.slice none 0 0) := by rw [blk_cell HI8.out.b2]; rfl
                have p1 : w8.cell? ⟨S + 1, 1, none⟩ = some (.slice none 0 0) := by rw [blk_cell HI8.out.b2]; rfl
                have p2 : w8.cell? ⟨S + 1, 2, none⟩ = some (.int .i64 0) := by rw [blk_cell HI8.out.b2]; rfl
                have pf := fun j => blk_frozen HI8.out.b2 j
                have q0 : w8.cell? ⟨S + 1 + 1, 0, none⟩ = some (.int .i64 0) := by rw [blk_cell HI8.out.b3]; rfl
                have q1 : w8.cell? ⟨S + 1 + 1, 1, none⟩ = some (.int .i64 0) := by rw [blk_cell HI8.out.b3]; rfl
                have qf := fun j => blk_frozen HI8.out.b3 j
                have o0 : w8.cell? ⟨S + 1 + 1 + 1, 0, none⟩ = some (.slice aS r.structs.length cS) := by rw [blk_cell HI8.out.b4]; rfl
                have o1 : w8.cell? ⟨S + 1 + 1 + 1, 1, none⟩ = some (.slice aE r.enums.length cE) := by rw [blk_cell HI8.out.b4]; rfl
                have o2 : w8.cell? ⟨S + 1 + 1 + 1, 2, none⟩ = some (.int .i64 0) := by rw [blk_cell HI8.out.b4]; rfl
                have of := fun j => blk_frozen HI8.out.b4 j
                have l1 := blk_lt HI8.out.b1
                have l2 := blk_lt HI8.out.b2
                have l3 := blk_lt HI8.out.b3
                have l4 := blk_lt HI8.out.b4
                rw [hqa] at r2
                cases hrx : recIx r t0.text with
                | none =>
                  have hmk4 : makeI r = .error (17, t0.pos) := by rw [HMK3.out, HRI.out, hrx]
                  have HMK4 := Lib.hid hmk4
                  rw [show ixV none = -1 from rfl]
                  have hqlt : qq < S := by have := HS.out; omega
                  clear hmk4 hrx d0 d0' d1
                  go_wp2_with fail
                  go_region
                  all_goals (try go_wp2_with fail)
                  all_goals refine bodyPost_ret (v := .tuple #[.agg #[.slice none 0 0, .slice none 0 0, .int .i64 0], .agg #[.int .i64 17, .int .i64 (t0.pos : Int)]]) (by simp [results, Try.results31, go_sem, *]) rfl ?_
                  all_goals rw [HMK4.out]
                  all_goals refine MakePost.mk_err rfl ?_
                  all_goals have hB := HI8.out.below
                  all_goals have hS := HS.out
                  all_goals (repeat' (first | (with_reducible exact Below.refl _ _) | (with_reducible assumption) | (with_reducible refine below_drewN ?_ _) | (with_reducible refine Below.alloc ?_ ?_ _) | (with_reducible refine Below.drew ?_) | (with_reducible refine Below.setCell ?_ ?_ _) | (with_reducible refine Below.trans ?_ (Below.mono (by assumption) ?_)) | go_size))
                | some j =>
                  have hj16 := (HNS.out _ (firstIx_spec hrx).1).1
                  have hjl := (firstIx_spec hrx).1
                  have hj0 : decide ((j : Int) < 0) = false := decide_eq_false (by omega)
                  have hmk4 : makeI r = .ok ⟨r.structs.map (recO r), r.enums.map choO, (j : Int)⟩ := by rw [HMK3.out, HRI.out, hrx]
                  have HMK4 := Lib.hid hmk4
                  rw [show ixV (some j) = (j : Int) from rfl]
                  clear hmk4 hrx d0 d0' d1
                  go_wp2_with fail
                  refine bodyPost_ret (v := .tuple #[.agg #[.slice aS r.structs.length cS, .slice aE r.enums.length cE, .int .i64 (j : Int)], .agg #[.int .i64 0, .int .i64 0]]) (by simp [results, Try.results31, go_sem, *]) rfl ?_
                  rw [HMK4.out]
                  refine MakePost.mk_ok rfl (fun W'' hz2 hw2 => ?_) ?_
                  · have h8 := HB8.out.size
                    have hSS := HS.out
                    simp only [World.size_setCell] at hz2 hw2
                    refine make_schema HPE.out HPF.out (blk_lt HIE.out.b4) HKF.out HZF.out (by omega) (fun b hb hO => (hw2 b (by omega) (by omega)).trans ?_) _
                    (repeat rw [Below.heap_setCell _ _ _ _ (by dsimp only; omega)])
                    exact HB8.out.block b hb
                  · have hB := HI8.out.below
                    have hS := HS.out
                    (repeat' (first | (with_reducible exact Below.refl _ _) | (with_reducible assumption) | (with_reducible refine Below.alloc ?_ ?_ _) | (with_reducible refine Below.drew ?_) | (with_reducible refine Below.setCell ?_ ?_ _) | (with_reducible refine Below.trans ?_ (Below.mono (by assumption) ?_)) | go_size))
              | cons t1 ts =>
                have hl : 1 < r.roots.length := by rw [hroots]; simp
                obtain ⟨_, _, z2⟩ := htr 1 (by omega)
                rw [hroots] at z2
                have z2 : wr.cell? ⟨qq, 5, none⟩ = some (.int .i64 (t1.pos : Int)) := z2
                have hmk4 : makeI r = .error (13, t1.pos) := by rw [HMK3.out, rootI, hroots]
                have HMK4 := Lib.hid hmk4
                have d0 : ((r.roots.length : Int) == 0) = false := beq_false_of_ne (by omega)
                have d0' : decide ((r.roots.length : Int) = 0) = false := decide_eq_false (by omega)
                have d1 : decide ((1 : Int) < (r.roots.length : Int)) = true := decide_eq_true (by omega)
                have hl1 : (1 : Int) < (r.roots.length : Int) := by omega
                have hqlt : qq < S := by have := HS.out; omega
                clear hroots hmk4 htr htk hl
                have r0 : wr.cell? ⟨S, 0, none⟩ = some (.slice a1 r.structs.length c1) := by rw [blk_cell HIF.out.b1]; rfl
                have r1 : wr.cell? ⟨S, 1, none⟩ = some (.slice a2 r.enums.length c2) := by rw [blk_cell HIF.out.b1]; rfl
                have r2 : wr.cell? ⟨S, 2, none⟩ = some (.slice a3 r.roots.length c3) := by rw [blk_cell HIF.out.b1]; rfl
                have p0 : wr.cell? ⟨S + 1, 0, none⟩ = some (.slice none 0 0) := by rw [blk_cell HIF.out.b2]; rfl
                have p1 : wr.cell? ⟨S + 1, 1, none⟩ = some (.slice none 0 0) := by rw [blk_cell HIF.out.b2]; rfl
                have p2 : wr.cell? ⟨S + 1, 2, none⟩ = some (.int .i64 0) := by rw [blk_cell HIF.out.b2]; rfl
                have pf := fun j => blk_frozen HIF.out.b2 j
                have q0 : wr.cell? ⟨S + 1 + 1, 0, none⟩ = some (.int .i64 0) := by rw [blk_cell HIF.out.b3]; rfl
                have q1 : wr.cell? ⟨S + 1 + 1, 1, none⟩ = some (.int .i64 0) := by rw [blk_cell HIF.out.b3]; rfl
                have qf := fun j => blk_frozen HIF.out.b3 j
                have o0 : wr.cell? ⟨S + 1 + 1 + 1, 0, none⟩ = some (.slice aS r.structs.length cS) := by rw [blk_cell HIF.out.b4]; rfl
                have o1 : wr.cell? ⟨S + 1 + 1 + 1, 1, none⟩ = some (.slice aE r.enums.length cE) := by rw [blk_cell HIF.out.b4]; rfl
                have o2 : wr.cell? ⟨S + 1 + 1 + 1, 2, none⟩ = some (.int .i64 0) := by rw [blk_cell HIF.out.b4]; rfl
                have of := fun j => blk_frozen HIF.out.b4 j
                have l1 := blk_lt HIF.out.b1
                have l2 := blk_lt HIF.out.b2
                have l3 := blk_lt HIF.out.b3
                have l4 := blk_lt HIF.out.b4
                rw [hqa] at r2
                go_wp2_with fail
                go_region
                all_goals (try go_wp2_with fail)
                all_goals refine bodyPost_ret (v := .tuple #[.agg #[.slice none 0 0, .slice none 0 0, .int .i64 0], .agg #[.int .i64 13, .int .i64 (t1.pos : Int)]]) (by simp [results, Try.results31, go_sem, *]) rfl ?_
                all_goals rw [HMK4.out]
                all_goals refine MakePost.mk_err rfl ?_
                all_goals have hB := HIF.out.below
                all_goals have hS := HS.out
                all_goals (repeat' (first | (with_reducible exact Below.refl _ _) | (with_reducible assumption) | (with_reducible refine below_drewN ?_ _) | (with_reducible refine Below.alloc ?_ ?_ _) | (with_reducible refine Below.drew ?_) | (with_reducible refine Below.setCell ?_ ?_ _) | (with_reducible refine Below.trans ?_ (Below.mono (by assumption) ?_)) | go_size))

end Go.Proofs.Ytgoaiokpnifhfaa
