/-
  transomref05.Rowed: a struct's fields in a row, by the reference.
-/
import Derived.Test.YtlfpakopahmdiaaRowed
namespace Go.Proofs.Ytlfpakopahmdiaa
open Go.RowKit
set_option linter.unusedVariables false
set_option linter.unusedSimpArgs false

structure RRInv (w wr : World) (nm : ByteArray) (sl : Value) (G : Nat) (vg vp : Value) (s : RowSt) : Prop where
  below : Below w.heap.size w wr
  r : wr.heap[w.heap.size]? = some (.cells #[.string nm, sl] 36 (0, 0))
  g : wr.heap[G]? = some (.cells (s.at_.map (Value.int .i64)).toArray 3 (0, 0))
  og : wr.ownsRow (G + 1) 3 1 vg s.groups.length (s.groups.map (Value.int .i64))
  op : wr.ownsRow (G + 1) 3 1 vp s.parts.length (s.parts.map (Value.int .i64))
  ne : ∀ k, vg.ownBlock = some k → vp.ownBlock ≠ some k
  d1 : w.heap.size < G

theorem RRInv.frame {w wr wB : World} {nm : ByteArray} {sl : Value} {G : Nat} {vg vp : Value} {s : RowSt} (h : RRInv w wr nm sl G vg vp s) (hb : Below wr.heap.size wr wB) : RRInv w wB nm sl G vg vp s :=
  ⟨h.below.trans (hb.mono h.below.size), blk_below h.r hb (blk_lt h.r), blk_below h.g hb (blk_lt h.g), ownsRow_at h.og (fun k hk => hb.block k (h.og.lt k hk).2), ownsRow_at h.op (fun k hk => hb.block k (h.op.lt k hk).2), h.ne, h.d1⟩
theorem RRInv.put {w wr : World} {nm : ByteArray} {sl : Value} {G : Nat} {vg vp : Value} {s : RowSt} (h : RRInv w wr nm sl G vg vp s) (k : Nat) (v z : Int) : RRInv w (wr.setCell ⟨G, k, none⟩ (.int .i64 v)) nm sl G vg vp { s with at_ := s.at_.set k v, size := z } := by
  have d1 := h.d1
  refine ⟨h.below.setCell (by simp; omega) _, blk_set_ne h.r _ (by simp; omega) _, ?_, ownsRow_setCell_below h.og (by simp) _, ownsRow_setCell_below h.op (by simp) _, h.ne, d1⟩
  rw [blk_set h.g, ints_put]

theorem RRInv.grp {w wB w1 : World} {nm : ByteArray} {sl : Value} {G g cap : Nat} {vg vp : Value} {s : RowSt} {i : Int} {T : TypeId} (h : RRInv w wB nm sl G vg vp s) (hgr : (wB.alloc (.cells #[.int .i64 i] T (0, 0))).grownBy w1 vg.ownBlock)
    (hat : vg.ownBlock = some g ∨ g = wB.heap.size + 1) (hown : w1.ownsRow (G + 1) 3 1 (.slice (some ⟨g, 0, none⟩) (s.groups.length + 1) cap) (s.groups.length + 1) (s.groups.map (Value.int .i64) ++ [.int .i64 i])) :
    RRInv w w1 nm sl G (.slice (some ⟨g, 0, none⟩) (s.groups.length + 1) cap) vp { s with groups := s.groups ++ [i] } := by
  have d1 := h.d1
  have hsz := h.below.size
  have hlt := h.og.lt
  have hltp := h.op.lt
  have hblk : ∀ b, b < wB.heap.size → some b ≠ vg.ownBlock → w1.heap[b]? = wB.heap[b]? := fun b hb hn => (hgr.block b (by simp; omega) hn).trans (Below.heap_alloc _ _ _ hb)
  have key : ∀ b o, wB.heap[b]? = some o → b ≤ G → w1.heap[b]? = some o := fun b o hb hx => (hblk b (blk_lt hb) (fun e => by have := (hlt b e.symm).1; omega)).trans hb
  refine ⟨Below.grown (h.below.alloc hsz _) hgr (by simp; omega) (fun k e => by have := (hlt k e).1; omega), key _ _ h.r (by omega), key _ _ h.g (by omega), ?_, ?_, ?_, d1⟩
  · simp only [List.length_append, List.length_singleton, List.map_append, List.map_singleton]
    exact hown
  · exact ownsRow_at h.op (fun k hk => hblk k (hltp k hk).2 (fun e => h.ne k e.symm hk))
  · intro k hk hp
    simp only [Value.ownBlock, Option.some.injEq] at hk
    subst hk
    rcases hat with e | e
    · exact h.ne _ e hp
    · have := (hltp _ hp).2; omega

theorem RRInv.prt {w wB w1 : World} {nm : ByteArray} {sl : Value} {G g cap : Nat} {vg vp : Value} {s : RowSt} {i : Int} {T : TypeId} (h : RRInv w wB nm sl G vg vp s) (hgr : (wB.alloc (.cells #[.int .i64 i] T (0, 0))).grownBy w1 vp.ownBlock)
    (hat : vp.ownBlock = some g ∨ g = wB.heap.size + 1) (hown : w1.ownsRow (G + 1) 3 1 (.slice (some ⟨g, 0, none⟩) (s.parts.length + 1) cap) (s.parts.length + 1) (s.parts.map (Value.int .i64) ++ [.int .i64 i])) :
    RRInv w w1 nm sl G vg (.slice (some ⟨g, 0, none⟩) (s.parts.length + 1) cap) { s with parts := s.parts ++ [i] } := by
  have d1 := h.d1
  have hsz := h.below.size
  have hlt := h.op.lt
  have hltp := h.og.lt
  have hblk : ∀ b, b < wB.heap.size → some b ≠ vp.ownBlock → w1.heap[b]? = wB.heap[b]? := fun b hb hn => (hgr.block b (by simp; omega) hn).trans (Below.heap_alloc _ _ _ hb)
  have key : ∀ b o, wB.heap[b]? = some o → b ≤ G → w1.heap[b]? = some o := fun b o hb hx => (hblk b (blk_lt hb) (fun e => by have := (hlt b e.symm).1; omega)).trans hb
  refine ⟨Below.grown (h.below.alloc hsz _) hgr (by simp; omega) (fun k e => by have := (hlt k e).1; omega), key _ _ h.r (by omega), key _ _ h.g (by omega), ?_, ?_, ?_, d1⟩
  · exact ownsRow_at h.og (fun k hk => hblk k (hltp k hk).2 (fun e => h.ne k hk e.symm))
  · simp only [List.length_append, List.length_singleton, List.map_append, List.map_singleton]
    exact hown
  · intro k hk hp
    simp only [Value.ownBlock, Option.some.injEq] at hp
    subst hp
    rcases hat with e | e
    · exact h.ne _ hk e
    · have := (hltp _ hk).2; omega

def RRowedPost (w : World) (fs : List FField) (e : Ending) (w' : World) : Prop :=
  ∃ g A B c d, e = .returned (.tuple #[.slice (some ⟨g, 0, none⟩) fs.length fs.length, .int .i64 (rowsOf fs fs.length).size, .slice A (rowsOf fs fs.length).groups.length c, .slice B (rowsOf fs fs.length).parts.length d]) ∧
    w'.heap[g]? = some (.cells ((rowsOf fs fs.length).at_.map (Value.int .i64)).toArray 3 (0, 0)) ∧ IntsAt w' A (rowsOf fs fs.length).groups ∧ IntsAt w' B (rowsOf fs fs.length).parts ∧ Below w.heap.size w w'

set_option maxHeartbeats 1000000 in
set_option maxRecDepth 100000 in
theorem refRowed_calls (nm : ByteArray) (b o c : Nat) (fs : List FField) (hn : fs.length ≤ 16) (hok : ∀ f ∈ fs, f.ok) (w : World) (hb : b < w.heap.size) (hr : FieldsAt w b o fs) :
    Calls Try.prog 26 #[.agg #[.string nm, .slice (some ⟨b, o, none⟩) fs.length c]] w (RRowedPost w fs) := by
  obtain ⟨i0, hi, hz0, hz1, hz2⟩ := info_parts info_int
  go_enter Try.func26, Try.ntmps26
  go_wp2_with (first | (at_make; refine wpList_make_full _ rfl _ _ 37 rfl w.heap.size 3 i0 (.int .i64 0) 1 Try.underlying37 hi hz0 hz1 .i64 .i64 _ _ fs.length rfl rfl rfl rfl (by rw [hz2]; omega) (by unfold maxLen; omega) (by simp) ?_))
  intro w1 hown hgr
  have hgs := hgr.size
  simp only [World.size_alloc] at hgs
  have rB : w1.heap[w.heap.size]? = some (.cells #[.string nm, .slice (some ⟨b, o, none⟩) fs.length c] 36 (0, 0)) := (hgr.block _ (by simp) (by simp)).trans (blk_new _ _)
  go_wp2
  have hG := made_block hown
  rw [made_ints] at hG
  have lG := blk_lt hG
  have hG2 : w.heap.size < w.heap.size + 1 := by omega
  clear hown
  generalize w.heap.size + 1 = G at *
  have hO : RRInv w w1 nm (.slice (some ⟨b, o, none⟩) fs.length c) G (.slice none 0 0) (.slice none 0 0) (rowsOf fs 0) := by
    refine ⟨?_, rB, hG, World.ownsRow_nil _ _ _ _, World.ownsRow_nil _ _ _ _, fun k hk => by simp [Value.ownBlock] at hk, hG2⟩
    exact ((Below.refl _ _).alloc (Nat.le_refl _) _).grown hgr (by simp) (by simp)
  clear rB hG hgr
  go_loopw [7, 8, 9, 10] (fun v7 v8 v9 v10 wr => ∃ (k : Nat) (vg vp : Value), k ≤ fs.length ∧ v7 = .int .i64 (rowsOf fs k).size ∧ v8 = vg ∧ v9 = vp ∧ v10 = .int .i64 k ∧ RRInv w wr nm (.slice (some ⟨b, o, none⟩) fs.length c) G vg vp (rowsOf fs k)) (fun _ _ _ v10 _ => fs.length - (intOf v10).toNat)
  case atStart => exact ⟨0, _, _, by omega, rfl, rfl, rfl, rfl, hO⟩
  case round =>
    obtain ⟨k, vg, vp, hk, rfl, rfl, rfl, rfl, hJ⟩ := hrel
    have hbd := rowsOf_bd fs k
    have rc : wr.cell? ⟨w.heap.size, 1, none⟩ = some (.slice (some ⟨b, o, none⟩) fs.length c) := by rw [blk_cell hJ.r]; rfl
    by_cases hkn : k < fs.length
    · obtain ⟨r0, r1, r2, r3, r4⟩ := hr.below hJ.below hb k hkn
      have hkI : (k : Int) < (fs.length : Int) := by omega
      have hks := kindSize_bd (fget fs k).kind
      obtain ⟨ho0, ho1⟩ := hok _ (fget_mem fs k hkn)
      obtain ⟨f, hf⟩ : ∃ f, f = fget fs k := ⟨_, rfl⟩
      obtain ⟨st, hst⟩ : ∃ s, s = rowsOf fs k := ⟨_, rfl⟩
      rw [← hf] at r0 r1 r2 r3 r4 hks ho0 ho1
      rw [← hst] at hJ hbd ⊢
      have hs : rowsOf fs (k + 1) = rStep f k st := by rw [rowsOf, ← hf, ← hst]
      have HS := Lib.hid hs
      clear hs hf hst
      have hlb : b < wr.heap.size := by have := hJ.below.size; omega
      rcases Bool.eq_false_or_eq_true (isNumB f.kind f.lists) with hnb | hnb
      · have hct := fun W => refIsNum_calls f.kind f.ref f.lists ho0 ho1 W
        rw [hnb] at hct
        go_upto_if 30 with (first | (go_at_call 46; refine (hct _).mono ?_; rintro e wB ⟨rfl, hB⟩; have hzB := hB.size; (try simp only [World.size_alloc, World.size_setCell, World.size_drew] at hzB); obtain ⟨hcB, hfB⟩ := bcell hB))
        have hJ1 := hJ.frame ((below1 _ _).trans (hB.mono (by simp)))
        have hFb := blk_below (blk_new wr _) hB (blk_lt (blk_new wr _))
        clear hcB hfB hct
        obtain ⟨W1, hW1⟩ : ∃ x, x = wB := ⟨_, rfl⟩
        subst hW1
        obtain ⟨FB, hFBe⟩ : ∃ x, x = wr.heap.size := ⟨_, rfl⟩
        have lGr := blk_lt hJ.g
        rw [← hFBe] at hFb hzB lGr ⊢
        clear hFBe
        have lFB := blk_lt hFb
        have gk : W1.cell? ⟨G, k, none⟩ = some (.int .i64 st.at_[k]!) := by rw [blk_cell hJ1.g, ints_get (by omega)]
        have gf : W1.frozen? ⟨G, k, none⟩ = false := blk_frozen hJ1.g _
        have f1 : W1.cell? ⟨FB, 0, none⟩ = some (.int .u8 f.kind) := by rw [blk_cell hFb]; rfl
        have hw : IntKind.i64.wrap (st.size + kindSize f.kind) = st.size + kindSize f.kind := IntWalk.i64_in _ (by omega)
        have hw2 : IntKind.i64.wrap f.kind = f.kind := IntWalk.i64_in _ (by omega)
        have nGF : ¬ G = FB := by omega
        have nFG : ¬ FB = G := by omega
        go_wp2_with (first | (go_at_call 43; refine (refSize_calls _ _).mono ?_; rintro e w' ⟨rfl, rfl⟩))
        go_roundw
        case rel => exact ⟨k + 1, u8, u9, by omega, by rw [HS.out, rStep, if_pos hnb], rfl, rfl, by go_num, by rw [HS.out, rStep, if_pos hnb]; exact hJ1.put k _ _⟩
        case measure => simp [intOf]; omega
      · have hct := fun W => refIsNum_calls f.kind f.ref f.lists ho0 ho1 W
        rw [hnb] at hct
        go_upto_if 30 with (first | (go_at_call 46; refine (hct _).mono ?_; rintro e wB ⟨rfl, hB⟩; have hzB := hB.size; (try simp only [World.size_alloc, World.size_setCell, World.size_drew] at hzB); obtain ⟨hcB, hfB⟩ := bcell hB))
        have hJ1 := hJ.frame ((below1 _ _).trans (hB.mono (by simp)))
        have hFb := blk_below (blk_new wr _) hB (blk_lt (blk_new wr _))
        clear hcB hfB hct
        obtain ⟨W1, hW1⟩ : ∃ x, x = wB := ⟨_, rfl⟩
        subst hW1
        obtain ⟨FB, hFBe⟩ : ∃ x, x = wr.heap.size := ⟨_, rfl⟩
        rw [← hFBe] at hFb hzB ⊢
        clear hFBe
        have lFB := blk_lt hFb
        have lG1 := blk_lt hJ1.g
        have f1 : W1.cell? ⟨FB, 0, none⟩ = some (.int .u8 f.kind) := by rw [blk_cell hFb]; rfl
        have f3 : W1.cell? ⟨FB, 2, none⟩ = some (.int .i64 f.lists) := by rw [blk_cell hFb]; rfl
        have hog := hJ1.og
        have hop := hJ1.op
        by_cases hg : 0 < f.lists ∨ f.kind = 13
        · have hgs : (∃ q : Unit, decide (0 < f.lists) = true) ∨ (decide (0 < f.lists) = false ∧ (f.kind == 13) = true) := by
            by_cases h0 : 0 < f.lists
            · exact .inl ⟨(), decide_eq_true h0⟩
            · exact .inr ⟨decide_eq_false h0, by rw [beq_iff_eq]; omega⟩
          rcases hgs with ⟨_, e1⟩ | ⟨e1, e2⟩
          all_goals
            go_wp2_with (at_builtin; refine wpList_append_lies _ rfl _ _ 37 rfl (G + 1) 3 i0 (.int .i64 0) 1 8 Try.underlying37 hi hz0 hz1 hz2 rfl (by decide) _ _ _ rfl (hog.alloc _) ⟨W1.heap.size, 0, none⟩ 1 1 [.int .i64 k] rfl rfl (cell_one_new _ _ _) (by simp [Value.oneCell']) (by decide) (by unfold maxLen; omega) (by omega) (by simp; omega) _ rfl ?_)
            intro g cap w2 hown2 hgr2 hat2 hlt2
            clear f1 f3 hog hop
            go_wp2
            go_roundw
            case rel => exact ⟨k + 1, _, u9, by omega, by rw [HS.out, rStep, if_neg (by simp [hnb]), if_pos hg], rfl, rfl, by go_num, by rw [HS.out, rStep, if_neg (by simp [hnb]), if_pos hg]; exact hJ1.grp hgr2 hat2 hown2⟩
            case measure => simp [intOf]; omega
        · have e1 : decide (0 < f.lists) = false := decide_eq_false (fun h => hg (.inl h))
          have e2 : (f.kind == 13) = false := by rw [beq_eq_false_iff_ne]; exact fun h => hg (.inr h)
          go_wp2_with (at_builtin; refine wpList_append_lies _ rfl _ _ 37 rfl (G + 1) 3 i0 (.int .i64 0) 1 8 Try.underlying37 hi hz0 hz1 hz2 rfl (by decide) _ _ _ rfl (hop.alloc _) ⟨W1.heap.size, 0, none⟩ 1 1 [.int .i64 k] rfl rfl (cell_one_new _ _ _) (by simp [Value.oneCell']) (by decide) (by unfold maxLen; omega) (by omega) (by simp; omega) _ rfl ?_)
          intro g cap w2 hown2 hgr2 hat2 hlt2
          clear f1 f3 hog hop
          go_wp2
          go_roundw
          case rel => exact ⟨k + 1, u8, _, by omega, by rw [HS.out, rStep, if_neg (by simp [hnb]), if_neg hg], rfl, rfl, by go_num, by rw [HS.out, rStep, if_neg (by simp [hnb]), if_neg hg]; exact hJ1.prt hgr2 hat2 hown2⟩
          case measure => simp [intOf]; omega
    · obtain rfl : k = fs.length := by omega
      obtain ⟨st, hst⟩ : ∃ s, s = rowsOf fs fs.length := ⟨_, rfl⟩
      rw [← hst] at hJ hbd ⊢
      obtain ⟨A, cA, rfl, hA⟩ := IntsAt.of_owned (xs := st.groups) hJ.og
      obtain ⟨B, cB, rfl, hBB⟩ := IntsAt.of_owned (xs := st.parts) hJ.op
      have HST := Lib.hid hst
      clear hst
      have HA := Lib.hid hA
      have HB := Lib.hid hBB
      clear hA hBB
      go_wp2
      refine bodyPost_ret (v := .tuple #[.slice (some ⟨G, 0, none⟩) fs.length fs.length, .int .i64 st.size, .slice A st.groups.length cA, .slice B st.parts.length cB]) (by simp [results, Try.results26, go_sem]) rfl ?_
      refine ⟨G, A, B, cA, cB, by rw [← HST.out], by rw [← HST.out]; exact hJ.g, by rw [← HST.out]; exact HA.out, by rw [← HST.out]; exact HB.out, hJ.below⟩

end Go.Proofs.Ytlfpakopahmdiaa
