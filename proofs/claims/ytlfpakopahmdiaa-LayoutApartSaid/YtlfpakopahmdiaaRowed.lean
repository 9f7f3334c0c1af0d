/-
  layout.Rowed and the reference's: a struct's fields in a row.
-/
import Derived.Test.YtlfpakopahmdiaaSameInts
import Derived.Test.YtlfpakopahmdiaaRegion
import Derived.Deep.RegionWith
import Derived.Deep.DeepCutAuto
import Derived.Deep.LoopGhost
import Derived.Deep.AppendLies
namespace Go.Proofs.Ytlfpakopahmdiaa
open Go.RowKit
set_option linter.unusedVariables false
set_option linter.unusedSimpArgs false

structure RowSt where
  at_ : List Int
  size : Int
  groups : List Int
  parts : List Int

def rStep (f : FField) (i : Nat) (s : RowSt) : RowSt :=
  if isNumB f.kind f.lists = true then { s with at_ := s.at_.set i s.size, size := s.size + kindSize f.kind }
  else if 0 < f.lists ∨ f.kind = 13 then { s with groups := s.groups ++ [(i : Int)] } else { s with parts := s.parts ++ [(i : Int)] }

def rowsOf (fs : List FField) : Nat → RowSt
  | 0 => ⟨List.replicate fs.length 0, 0, [], []⟩
  | k + 1 => rStep (fget fs k) k (rowsOf fs k)

theorem rowsOf_bd (fs : List FField) (k : Nat) : (rowsOf fs k).at_.length = fs.length ∧ 0 ≤ (rowsOf fs k).size ∧ (rowsOf fs k).size ≤ 8 * k ∧ (rowsOf fs k).groups.length ≤ k ∧ (rowsOf fs k).parts.length ≤ k := by
  induction k with
  | zero => simp [rowsOf]
  | succ k ih =>
    obtain ⟨h1, h2, h3, h4, h5⟩ := ih
    have hb := kindSize_bd (fget fs k).kind
    simp only [rowsOf, rStep]
    split
    · refine ⟨by simp [h1], by simp; omega, by simp; omega, by simp; omega, by simp; omega⟩
    · split
      · refine ⟨h1, h2, by simp; omega, by simp; omega, by simp; omega⟩
      · refine ⟨h1, h2, by simp; omega, by simp; omega, by simp; omega⟩

/-- what is known of the world while Rowed runs: G: the places; X: the answer -/
structure RowInv (w wr : World) (nm : ByteArray) (sl : Value) (n X G : Nat) (vg vp : Value) (s : RowSt) : Prop where
  below : Below w.heap.size w wr
  r : wr.heap[w.heap.size]? = some (.cells #[.string nm, sl] 36 (0, 0))
  res : wr.heap[w.heap.size + 1]? = some (.cells #[.int .i64 0, .slice none 0 0, .slice none 0 0, .slice none 0 0] 53 (0, 0))
  x : wr.heap[X]? = some (.cells #[.int .i64 s.size, .slice (some ⟨G, 0, none⟩) n n, vg, vp] 53 (0, 0))
  g : wr.heap[G]? = some (.cells (s.at_.map (Value.int .i64)).toArray 3 (0, 0))
  og : wr.ownsRow (X + 1) 3 1 vg s.groups.length (s.groups.map (Value.int .i64))
  op : wr.ownsRow (X + 1) 3 1 vp s.parts.length (s.parts.map (Value.int .i64))
  ne : ∀ k, vg.ownBlock = some k → vp.ownBlock ≠ some k
  d1 : w.heap.size + 1 < G
  d2 : G < X

theorem RowInv.frame {w wr wB : World} {nm : ByteArray} {sl : Value} {n X G : Nat} {vg vp : Value} {s : RowSt} (h : RowInv w wr nm sl n X G vg vp s) (hb : Below wr.heap.size wr wB) : RowInv w wB nm sl n X G vg vp s :=
  ⟨h.below.trans (hb.mono h.below.size), blk_below h.r hb (blk_lt h.r), blk_below h.res hb (blk_lt h.res), blk_below h.x hb (blk_lt h.x), blk_below h.g hb (blk_lt h.g), ownsRow_at h.og (fun k hk => hb.block k (h.og.lt k hk).2), ownsRow_at h.op (fun k hk => hb.block k (h.op.lt k hk).2), h.ne, h.d1, h.d2⟩
theorem RowInv.put {w wr : World} {nm : ByteArray} {sl : Value} {n X G : Nat} {vg vp : Value} {s : RowSt} (h : RowInv w wr nm sl n X G vg vp s) (k : Nat) (v : Int) : RowInv w (wr.setCell ⟨G, k, none⟩ (.int .i64 v)) nm sl n X G vg vp { s with at_ := s.at_.set k v } := by
  have d1 := h.d1
  have d2 := h.d2
  refine ⟨h.below.setCell (by simp; omega) _, blk_set_ne h.r _ (by simp; omega) _, blk_set_ne h.res _ (by simp; omega) _, blk_set_ne h.x _ (by simp; omega) _, ?_, ownsRow_setCell_below h.og (by simp; omega) _, ownsRow_setCell_below h.op (by simp; omega) _, h.ne, d1, d2⟩
  rw [blk_set h.g, ints_put]
theorem RowInv.sz {w wr : World} {nm : ByteArray} {sl : Value} {n X G : Nat} {vg vp : Value} {s : RowSt} (h : RowInv w wr nm sl n X G vg vp s) (v : Int) : RowInv w (wr.setCell ⟨X, 0, none⟩ (.int .i64 v)) nm sl n X G vg vp { s with size := v } := by
  have d1 := h.d1
  have d2 := h.d2
  refine ⟨h.below.setCell (by simp; omega) _, blk_set_ne h.r _ (by simp; omega) _, blk_set_ne h.res _ (by simp; omega) _, ?_, blk_set_ne h.g _ (by simp; omega) _, ownsRow_setCell_below h.og (by simp) _, ownsRow_setCell_below h.op (by simp) _, h.ne, d1, d2⟩
  rw [blk_set h.x]; rfl
theorem RowInv.drew {w wr : World} {nm : ByteArray} {sl : Value} {n X G : Nat} {vg vp : Value} {s : RowSt} (h : RowInv w wr nm sl n X G vg vp s) : RowInv w wr.drew nm sl n X G vg vp s :=
  ⟨h.below.drew, h.r, h.res, h.x, h.g, h.og.drew, h.op.drew, h.ne, h.d1, h.d2⟩

theorem RowInv.grp {w wB w1 : World} {nm : ByteArray} {sl : Value} {n X G g cap : Nat} {vg vp : Value} {s : RowSt} {i : Int} {T : TypeId} (h : RowInv w wB nm sl n X G vg vp s) (hgr : (wB.alloc (.cells #[.int .i64 i] T (0, 0))).grownBy w1 vg.ownBlock)
    (hat : vg.ownBlock = some g ∨ g = wB.heap.size + 1) (hown : w1.ownsRow (X + 1) 3 1 (.slice (some ⟨g, 0, none⟩) (s.groups.length + 1) cap) (s.groups.length + 1) (s.groups.map (Value.int .i64) ++ [.int .i64 i])) :
    RowInv w (w1.setCell ⟨X, 2, none⟩ (.slice (some ⟨g, 0, none⟩) (s.groups.length + 1) cap)) nm sl n X G (.slice (some ⟨g, 0, none⟩) (s.groups.length + 1) cap) vp { s with groups := s.groups ++ [i] } := by
  have d1 := h.d1
  have d2 := h.d2
  have hsz := h.below.size
  have hlt := h.og.lt
  have hltp := h.op.lt
  have hblk : ∀ b, b < wB.heap.size → some b ≠ vg.ownBlock → w1.heap[b]? = wB.heap[b]? := fun b hb hn => (hgr.block b (by simp; omega) hn).trans (Below.heap_alloc _ _ _ hb)
  have key : ∀ b o, wB.heap[b]? = some o → b ≤ X → w1.heap[b]? = some o := fun b o hb hx => (hblk b (blk_lt hb) (fun e => by have := (hlt b e.symm).1; omega)).trans hb
  refine ⟨Below.setCell (Below.grown (h.below.alloc hsz _) hgr (by simp; omega) (fun k e => by have := (hlt k e).1; omega)) (by simp; omega) _, blk_set_ne (key _ _ h.r (by omega)) _ (by simp; omega) _, blk_set_ne (key _ _ h.res (by omega)) _ (by simp; omega) _, ?_, blk_set_ne (key _ _ h.g (by omega)) _ (by simp; omega) _, ?_, ?_, ?_, d1, d2⟩
  · rw [blk_set (key _ _ h.x (by omega))]; rfl
  · simp only [List.length_append, List.length_singleton, List.map_append, List.map_singleton]
    exact ownsRow_setCell_below hown (by simp) _
  · refine ownsRow_setCell_below (ownsRow_at h.op (fun k hk => hblk k (hltp k hk).2 (fun e => h.ne k e.symm hk))) (by simp) _
  · intro k hk hp
    simp only [Value.ownBlock, Option.some.injEq] at hk
    subst hk
    rcases hat with e | e
    · exact h.ne _ e hp
    · have := (hltp _ hp).2; omega

theorem RowInv.prt {w wB w1 : World} {nm : ByteArray} {sl : Value} {n X G g cap : Nat} {vg vp : Value} {s : RowSt} {i : Int} {T : TypeId} (h : RowInv w wB nm sl n X G vg vp s) (hgr : (wB.alloc (.cells #[.int .i64 i] T (0, 0))).grownBy w1 vp.ownBlock)
    (hat : vp.ownBlock = some g ∨ g = wB.heap.size + 1) (hown : w1.ownsRow (X + 1) 3 1 (.slice (some ⟨g, 0, none⟩) (s.parts.length + 1) cap) (s.parts.length + 1) (s.parts.map (Value.int .i64) ++ [.int .i64 i])) :
    RowInv w (w1.setCell ⟨X, 3, none⟩ (.slice (some ⟨g, 0, none⟩) (s.parts.length + 1) cap)) nm sl n X G vg (.slice (some ⟨g, 0, none⟩) (s.parts.length + 1) cap) { s with parts := s.parts ++ [i] } := by
  have d1 := h.d1
  have d2 := h.d2
  have hsz := h.below.size
  have hlt := h.op.lt
  have hltp := h.og.lt
  have hblk : ∀ b, b < wB.heap.size → some b ≠ vp.ownBlock → w1.heap[b]? = wB.heap[b]? := fun b hb hn => (hgr.block b (by simp; omega) hn).trans (Below.heap_alloc _ _ _ hb)
  have key : ∀ b o, wB.heap[b]? = some o → b ≤ X → w1.heap[b]? = some o := fun b o hb hx => (hblk b (blk_lt hb) (fun e => by have := (hlt b e.symm).1; omega)).trans hb
  refine ⟨Below.setCell (Below.grown (h.below.alloc hsz _) hgr (by simp; omega) (fun k e => by have := (hlt k e).1; omega)) (by simp; omega) _, blk_set_ne (key _ _ h.r (by omega)) _ (by simp; omega) _, blk_set_ne (key _ _ h.res (by omega)) _ (by simp; omega) _, ?_, blk_set_ne (key _ _ h.g (by omega)) _ (by simp; omega) _, ?_, ?_, ?_, d1, d2⟩
  · rw [blk_set (key _ _ h.x (by omega))]; rfl
  · refine ownsRow_setCell_below (ownsRow_at h.og (fun k hk => hblk k (hltp k hk).2 (fun e => h.ne k hk e.symm))) (by simp) _
  · simp only [List.length_append, List.length_singleton, List.map_append, List.map_singleton]
    exact ownsRow_setCell_below hown (by simp) _
  · intro k hk hp
    simp only [Value.ownBlock, Option.some.injEq] at hp
    subst hp
    rcases hat with e | e
    · exact h.ne _ hk e
    · have := (hltp _ hk).2; omega

def RowedPost (w : World) (fs : List FField) (e : Ending) (w' : World) : Prop :=
  ∃ g A B c d, e = .returned (.agg #[.int .i64 (rowsOf fs fs.length).size, .slice (some ⟨g, 0, none⟩) fs.length fs.length, .slice A (rowsOf fs fs.length).groups.length c, .slice B (rowsOf fs fs.length).parts.length d]) ∧
    w.heap.size ≤ g ∧ w'.heap[g]? = some (.cells ((rowsOf fs fs.length).at_.map (Value.int .i64)).toArray 3 (0, 0)) ∧ IntsAt w' A (rowsOf fs fs.length).groups ∧ IntsAt w' B (rowsOf fs fs.length).parts ∧ Below w.heap.size w w'

set_option maxHeartbeats 1000000 in
set_option maxRecDepth 100000 in
theorem layoutRowed_calls (nm : ByteArray) (b o c : Nat) (fs : List FField) (hn : fs.length ≤ 16) (w : World) (hb : b < w.heap.size) (hr : FieldsAt w b o fs) :
    Calls Try.prog 25 #[.agg #[.string nm, .slice (some ⟨b, o, none⟩) fs.length c]] w (RowedPost w fs) := by
  obtain ⟨i0, hi, hz0, hz1, hz2⟩ := info_parts info_int
  go_enter Try.func25, Try.ntmps25
  go_wp2_with (first | (at_make; refine wpList_make_full _ rfl _ _ 37 rfl w.heap.size 3 i0 (.int .i64 0) 1 Try.underlying37 hi hz0 hz1 .i64 .i64 _ _ fs.length rfl rfl rfl rfl (by rw [hz2]; omega) (by unfold maxLen; omega) (by simp; omega) ?_))
  intro w1 hown hgr
  have hgs := hgr.size
  simp only [World.size_alloc] at hgs
  have rB : w1.heap[w.heap.size]? = some (.cells #[.string nm, .slice (some ⟨b, o, none⟩) fs.length c] 36 (0, 0)) := (hgr.block _ (by simp; omega) (by simp)).trans (blk_alloc (blk_new _ _) _)
  have rc : w1.cell? ⟨w.heap.size, 1, none⟩ = some (.slice (some ⟨b, o, none⟩) fs.length c) := by rw [blk_cell rB]; rfl
  have lw : w.heap.size < w1.heap.size := by omega
  go_wp2
  clear rc lw
  have hG := made_block hown
  rw [made_ints] at hG
  have lG := blk_lt hG
  have hG2 : w.heap.size + 1 < w.heap.size + 1 + 1 := by omega
  clear hown
  generalize w.heap.size + 1 + 1 = G at *
  have hO : RowInv w (w1.alloc (Obj.cells #[Value.int IntKind.i64 0, Value.slice (some ⟨G, 0, none⟩) fs.length fs.length, .slice none 0 0, .slice none 0 0] 53)) nm (.slice (some ⟨b, o, none⟩) fs.length c) fs.length w1.heap.size G (.slice none 0 0) (.slice none 0 0) (rowsOf fs 0) := by
    refine ⟨?_, ?_, ?_, ?_, blk_alloc hG _, World.ownsRow_nil _ _ _ _, World.ownsRow_nil _ _ _ _, fun k hk => by simp [Value.ownBlock] at hk, hG2, lG⟩
    · exact ((((Below.refl _ _).alloc (Nat.le_refl _) _).alloc (by simp) _).grown hgr (by simp; omega) (by simp)).alloc (by omega) _
    · exact blk_alloc rB _
    · refine blk_alloc ((hgr.block _ (by simp) (by simp)).trans ?_) _
      have := blk_new (w.alloc (Obj.cells #[Value.string nm, Value.slice (some ⟨b, o, none⟩) fs.length c] 36)) (Obj.cells #[Value.int IntKind.i64 0, .slice none 0 0, .slice none 0 0, .slice none 0 0] 53)
      simpa using this
    · exact blk_new _ _
  obtain ⟨X, hX⟩ : ∃ x, x = w1.heap.size := ⟨_, rfl⟩
  rw [← hX] at hO ⊢
  clear hX rB hG hgr
  go_loopw [14] (fun v14 wr => ∃ (k : Nat) (vg vp : Value), k ≤ fs.length ∧ v14 = .int .i64 k ∧ RowInv w wr nm (.slice (some ⟨b, o, none⟩) fs.length c) fs.length X G vg vp (rowsOf fs k)) (fun v14 _ => fs.length - (intOf v14).toNat)
  case atStart => exact ⟨0, _, _, by omega, rfl, hO⟩
  case round =>
    obtain ⟨k, vg, vp, hk, rfl, hJ⟩ := hrel
    have hbd := rowsOf_bd fs k
    by_cases hkn : k < fs.length
    · obtain ⟨r0, r1, r2, r3, r4⟩ := hr.below hJ.below hb k hkn
      have hkI : (k : Int) < (fs.length : Int) := by omega
      have hks := kindSize_bd (fget fs k).kind
      obtain ⟨f, hf⟩ : ∃ f, f = fget fs k := ⟨_, rfl⟩
      obtain ⟨st, hst⟩ : ∃ s, s = rowsOf fs k := ⟨_, rfl⟩
      rw [← hf] at r0 r1 r2 r3 r4 hks
      rw [← hst] at hJ hbd
      have hs : rowsOf fs (k + 1) = rStep f k st := by rw [rowsOf, ← hf, ← hst]
      have HS := Lib.hid hs
      clear hs hf hst
      have hlb : b < wr.heap.size := by have := hJ.below.size; omega
      rcases Bool.eq_false_or_eq_true (isNumB f.kind f.lists) with hnb | hnb
      · have hct := fun W => layoutNumber_calls f.name f.kind f.ref f.lists f.df W
        rw [hnb] at hct
        go_upto_if 25 with (first | (go_at_call 45; refine (hct _).mono ?_; rintro e wB ⟨rfl, hB⟩; have hzB := hB.size; (try simp only [World.size_alloc, World.size_setCell, World.size_drew] at hzB); obtain ⟨hcB, hfB⟩ := bcell hB))
        have hJ1 := hJ.frame ((below1 _ _).trans (hB.mono (by simp)))
        have hFb := blk_below (blk_new wr _) hB (blk_lt (blk_new wr _))
        clear hcB hfB hct
        obtain ⟨W1, hW1⟩ : ∃ x, x = wB := ⟨_, rfl⟩
        subst hW1
        obtain ⟨FB, hFBe⟩ : ∃ x, x = wr.heap.size := ⟨_, rfl⟩
        have lGr := blk_lt hJ.g
        have lXr := blk_lt hJ.x
        rw [← hFBe] at hFb hzB lGr lXr ⊢
        clear hFBe
        have lX := blk_lt hJ1.x
        have lFB := blk_lt hFb
        have d2 := hJ.d2
        have x0 : W1.cell? ⟨X, 0, none⟩ = some (.int .i64 st.size) := by rw [blk_cell hJ1.x]; rfl
        have x1 : W1.cell? ⟨X, 1, none⟩ = some (.slice (some ⟨G, 0, none⟩) fs.length fs.length) := by rw [blk_cell hJ1.x]; rfl
        have gk : W1.cell? ⟨G, k, none⟩ = some (.int .i64 st.at_[k]!) := by rw [blk_cell hJ1.g, ints_get (by omega)]
        have gf : W1.frozen? ⟨G, k, none⟩ = false := blk_frozen hJ1.g _
        go_wp2_with fail
        have hJ2 := hJ1.put k st.size
        have hFb2 : (W1.setCell ⟨G, k, none⟩ (.int .i64 st.size)).heap[FB]? = _ := blk_set_ne hFb ⟨G, k, none⟩ (by simp; omega) _
        obtain ⟨W2, hW2⟩ : ∃ x, x = W1.setCell ⟨G, k, none⟩ (.int .i64 st.size) := ⟨_, rfl⟩
        rw [← hW2] at hJ2 hFb2 ⊢
        clear hW2 x0 x1 gk gf
        have x0 : W2.cell? ⟨X, 0, none⟩ = some (.int .i64 st.size) := by rw [blk_cell hJ2.x]; rfl
        have xf : W2.frozen? ⟨X, 0, none⟩ = false := blk_frozen hJ2.x _
        have f1 : W2.cell? ⟨FB, 1, none⟩ = some (.int .u8 f.kind) := by rw [blk_cell hFb2]; rfl
        have hw : IntKind.i64.wrap (st.size + kindSize f.kind) = st.size + kindSize f.kind := IntWalk.i64_in _ (by omega)
        go_region_with ((go_at_call 42; refine (wireSize_calls _ _).mono ?_; rintro e w' ⟨rfl, rfl⟩))
        all_goals (go_wp2; go_roundw; (case rel => exact ⟨k + 1, vg, vp, by omega, by go_num, by rw [HS.out, rStep, if_pos hnb]; first | exact (hJ2.sz _).drew | exact hJ2.drew.sz _⟩); (case measure => simp [intOf]; omega))
      · have hct := fun W => layoutNumber_calls f.name f.kind f.ref f.lists f.df W
        rw [hnb] at hct
        go_upto_if 25 with (first | (go_at_call 45; refine (hct _).mono ?_; rintro e wB ⟨rfl, hB⟩; have hzB := hB.size; (try simp only [World.size_alloc, World.size_setCell, World.size_drew] at hzB); obtain ⟨hcB, hfB⟩ := bcell hB))
        have hJ1 := hJ.frame ((below1 _ _).trans (hB.mono (by simp)))
        have hFb := blk_below (blk_new wr _) hB (blk_lt (blk_new wr _))
        clear hcB hfB hct
        obtain ⟨W1, hW1⟩ : ∃ x, x = wB := ⟨_, rfl⟩
        subst hW1
        obtain ⟨FB, hFBe⟩ : ∃ x, x = wr.heap.size := ⟨_, rfl⟩
        have lGr := blk_lt hJ.g
        have lXr := blk_lt hJ.x
        rw [← hFBe] at hFb hzB lGr lXr ⊢
        clear hFBe
        have lX := blk_lt hJ1.x
        have lFB := blk_lt hFb
        have f1 : W1.cell? ⟨FB, 1, none⟩ = some (.int .u8 f.kind) := by rw [blk_cell hFb]; rfl
        have f3 : W1.cell? ⟨FB, 3, none⟩ = some (.int .i64 f.lists) := by rw [blk_cell hFb]; rfl
        have x2 : W1.cell? ⟨X, 2, none⟩ = some vg := by rw [blk_cell hJ1.x]; rfl
        have x3 : W1.cell? ⟨X, 3, none⟩ = some vp := by rw [blk_cell hJ1.x]; rfl
        have hog := hJ1.og
        have hop := hJ1.op
        by_cases hg : 0 < f.lists ∨ f.kind = 13
        · have hgs : (∃ q : Unit, decide (0 < f.lists) = true) ∨ (decide (0 < f.lists) = false ∧ (f.kind == 13) = true) := by
            by_cases h0 : 0 < f.lists
            · exact .inl ⟨(), decide_eq_true h0⟩
            · exact .inr ⟨decide_eq_false h0, by rw [beq_iff_eq]; omega⟩
          rcases hgs with ⟨_, e1⟩ | ⟨e1, e2⟩
          all_goals
            go_wp2_with (at_builtin; refine wpList_append_lies _ rfl _ _ 37 rfl (X + 1) 3 i0 (.int .i64 0) 1 8 Try.underlying37 hi hz0 hz1 hz2 rfl (by decide) _ _ _ rfl (hog.alloc _) ⟨W1.heap.size, 0, none⟩ 1 1 [.int .i64 k] rfl rfl (cell_one_new _ _ _) (by simp [Value.oneCell']) (by decide) (by unfold maxLen; omega) (by omega) (by simp; omega) _ rfl ?_)
            intro g cap w2 hown2 hgr2 hat2 hlt2
            have hnX : some X ≠ vg.ownBlock := fun e => by have := (hJ1.og.lt X e.symm).1; omega
            have hX2 := (hgr2.block X (by simp; omega) hnX).trans (blk_alloc hJ1.x _)
            have dX2 : w2.cell? ⟨X, 2, none⟩ = some vg := by rw [blk_cell hX2]; rfl
            have eX2 : w2.frozen? ⟨X, 2, none⟩ = false := blk_frozen hX2 _
            have lX2 := blk_lt hX2
            clear x2 x3 f1 f3 hog hop
            go_wp2
            go_roundw
            case rel => exact ⟨k + 1, _, vp, by omega, by go_num, by rw [HS.out, rStep, if_neg (by simp [hnb]), if_pos hg]; exact hJ1.grp hgr2 hat2 hown2⟩
            case measure => simp [intOf]; omega
        · have e1 : decide (0 < f.lists) = false := decide_eq_false (fun h => hg (.inl h))
          have e2 : (f.kind == 13) = false := by rw [beq_eq_false_iff_ne]; exact fun h => hg (.inr h)
          go_wp2_with (at_builtin; refine wpList_append_lies _ rfl _ _ 37 rfl (X + 1) 3 i0 (.int .i64 0) 1 8 Try.underlying37 hi hz0 hz1 hz2 rfl (by decide) _ _ _ rfl (hop.alloc _) ⟨W1.heap.size, 0, none⟩ 1 1 [.int .i64 k] rfl rfl (cell_one_new _ _ _) (by simp [Value.oneCell']) (by decide) (by unfold maxLen; omega) (by omega) (by simp; omega) _ rfl ?_)
          intro g cap w2 hown2 hgr2 hat2 hlt2
          have hnX : some X ≠ vp.ownBlock := fun e => by have := (hJ1.op.lt X e.symm).1; omega
          have hX2 := (hgr2.block X (by simp; omega) hnX).trans (blk_alloc hJ1.x _)
          have dX2 : w2.cell? ⟨X, 3, none⟩ = some vp := by rw [blk_cell hX2]; rfl
          have eX2 : w2.frozen? ⟨X, 3, none⟩ = false := blk_frozen hX2 _
          have lX2 := blk_lt hX2
          clear x2 x3 f1 f3 hog hop
          go_wp2
          go_roundw
          case rel => exact ⟨k + 1, vg, _, by omega, by go_num, by rw [HS.out, rStep, if_neg (by simp [hnb]), if_neg hg]; exact hJ1.prt hgr2 hat2 hown2⟩
          case measure => simp [intOf]; omega
    · obtain rfl : k = fs.length := by omega
      obtain ⟨st, hst⟩ : ∃ s, s = rowsOf fs fs.length := ⟨_, rfl⟩
      rw [← hst] at hJ hbd
      obtain ⟨A, cA, rfl, hA⟩ := IntsAt.of_owned (xs := st.groups) hJ.og
      obtain ⟨B, cB, rfl, hBB⟩ := IntsAt.of_owned (xs := st.parts) hJ.op
      have HST := Lib.hid hst
      clear hst hA hBB
      have d1 := hJ.d1
      have d2 := hJ.d2
      have x0 : wr.cell? ⟨X, 0, none⟩ = some (.int .i64 st.size) := by rw [blk_cell hJ.x]; rfl
      have x1 : wr.cell? ⟨X, 1, none⟩ = some (.slice (some ⟨G, 0, none⟩) fs.length fs.length) := by rw [blk_cell hJ.x]; rfl
      have x2 : wr.cell? ⟨X, 2, none⟩ = some (.slice A st.groups.length cA) := by rw [blk_cell hJ.x]; rfl
      have x3 : wr.cell? ⟨X, 3, none⟩ = some (.slice B st.parts.length cB) := by rw [blk_cell hJ.x]; rfl
      have s0 : wr.cell? ⟨w.heap.size + 1, 0, none⟩ = some (.int .i64 0) := by rw [blk_cell hJ.res]; rfl
      have s1 : wr.cell? ⟨w.heap.size + 1, 1, none⟩ = some (.slice none 0 0) := by rw [blk_cell hJ.res]; rfl
      have s2 : wr.cell? ⟨w.heap.size + 1, 2, none⟩ = some (.slice none 0 0) := by rw [blk_cell hJ.res]; rfl
      have s3 : wr.cell? ⟨w.heap.size + 1, 3, none⟩ = some (.slice none 0 0) := by rw [blk_cell hJ.res]; rfl
      have fs0 : ∀ j, wr.frozen? ⟨w.heap.size + 1, j, none⟩ = false := fun j => blk_frozen hJ.res _
      go_wp2
      refine bodyPost_ret (v := .agg #[.int .i64 st.size, .slice (some ⟨G, 0, none⟩) fs.length fs.length, .slice A st.groups.length cA, .slice B st.parts.length cB]) (by simp [results, Try.results25, go_sem, s0, s1, s2, s3, fs0]) rfl ?_
      refine ⟨G, A, B, cA, cB, by rw [← HST.out], by have := hJ.d1; omega, ?_, ?_, ?_, ?_⟩
      · rw [← HST.out]
        exact blk_set_ne (blk_set_ne (blk_set_ne (blk_set_ne hJ.g _ (by simp; omega) _) _ (by simp; omega) _) _ (by simp; omega) _) _ (by simp; omega) _
      · rw [← HST.out]
        obtain ⟨A', c', e, h⟩ := IntsAt.of_owned (xs := st.groups) (ownsRow_setCell_below (ownsRow_setCell_below (ownsRow_setCell_below (ownsRow_setCell_below hJ.og (a := ⟨w.heap.size + 1, 0, none⟩) (by simp; omega) (.int .i64 st.size)) (a := ⟨w.heap.size + 1, 1, none⟩) (by simp; omega) (.slice (some ⟨G, 0, none⟩) fs.length fs.length)) (a := ⟨w.heap.size + 1, 2, none⟩) (by simp; omega) (.slice A st.groups.length cA)) (a := ⟨w.heap.size + 1, 3, none⟩) (by simp; omega) (.slice B st.parts.length cB))
        cases e
        exact h
      · rw [← HST.out]
        obtain ⟨A', c', e, h⟩ := IntsAt.of_owned (xs := st.parts) (ownsRow_setCell_below (ownsRow_setCell_below (ownsRow_setCell_below (ownsRow_setCell_below hJ.op (a := ⟨w.heap.size + 1, 0, none⟩) (by simp; omega) (.int .i64 st.size)) (a := ⟨w.heap.size + 1, 1, none⟩) (by simp; omega) (.slice (some ⟨G, 0, none⟩) fs.length fs.length)) (a := ⟨w.heap.size + 1, 2, none⟩) (by simp; omega) (.slice A st.groups.length cA)) (a := ⟨w.heap.size + 1, 3, none⟩) (by simp; omega) (.slice B st.parts.length cB))
        cases e
        exact h
      · exact (((hJ.below.setCell (by simp) _).setCell (by simp) _).setCell (by simp) _).setCell (by simp) _

end Go.Proofs.Ytlfpakopahmdiaa
