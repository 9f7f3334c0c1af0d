/-
  layout.Words and the document's Words.
-/
import Derived.Test.YtlfpakopahmdiaaData
namespace Go.Proofs.Ytlfpakopahmdiaa
open Go.RowKit
set_option linter.unusedVariables false
set_option linter.unusedSimpArgs false

def wStep (size : Int) (f : FField) (i : Nat) (st : Int × List Int) : Int × List Int :=
  if isNumB f.kind f.lists = true ∧ kindBits f.kind = size then (st.1 + size, st.2.set i st.1) else st
def wIn (fs : List FField) (size : Int) (st : Int × List Int) : Nat → Int × List Int
  | 0 => st
  | k + 1 => wStep size (fget fs k) k (wIn fs size st k)
def wSize : Nat → Int | 0 => 64 | 1 => 32 | 2 => 16 | 3 => 8 | 4 => 1 | _ => 0
def wOut (fs : List FField) : Nat → Int × List Int
  | 0 => (0, List.replicate fs.length 0)
  | z + 1 => wIn fs (wSize z) (wOut fs z) fs.length
def pStep (f : FField) (i : Nat) (st : Int × List Int) : Int × List Int :=
  if isNumB f.kind f.lists = true then st else (st.1 + 1, st.2.set i st.1)
def pIn (fs : List FField) (st : Int × List Int) : Nat → Int × List Int
  | 0 => st
  | k + 1 => pStep (fget fs k) k (pIn fs st k)

theorem wStep_bd (size : Int) (h0 : 0 ≤ size) (f : FField) (i : Nat) (st : Int × List Int) : st.1 ≤ (wStep size f i st).1 ∧ (wStep size f i st).1 ≤ st.1 + size ∧ (wStep size f i st).2.length = st.2.length := by
  unfold wStep; split <;> simp <;> omega
theorem wIn_bd (fs : List FField) (size : Int) (h0 : 0 ≤ size) (h1 : size ≤ 64) (st : Int × List Int) (k : Nat) : st.1 ≤ (wIn fs size st k).1 ∧ (wIn fs size st k).1 ≤ st.1 + 64 * k ∧ (wIn fs size st k).2.length = st.2.length := by
  induction k with
  | zero => simp [wIn]
  | succ k ih => have := wStep_bd size h0 (fget fs k) k (wIn fs size st k); simp only [wIn]; omega
theorem wSizes_bd (z : Nat) : 0 ≤ wSize z ∧ wSize z ≤ 64 := by
  unfold wSize; split <;> omega
theorem wOut_bd (fs : List FField) (z : Nat) : 0 ≤ (wOut fs z).1 ∧ (wOut fs z).2.length = fs.length := by
  induction z with
  | zero => simp [wOut]
  | succ z ih =>
    have := wIn_bd fs (wSize z) (wSizes_bd z).1 (wSizes_bd z).2 (wOut fs z) fs.length
    simp only [wOut]
    omega
theorem wOut_le (fs : List FField) (hn : fs.length ≤ 16) (z : Nat) : (wOut fs z).1 ≤ 1024 * z := by
  induction z with
  | zero => simp [wOut]
  | succ z ih =>
    have := wIn_bd fs (wSize z) (wSizes_bd z).1 (wSizes_bd z).2 (wOut fs z) fs.length
    simp only [wOut]
    omega
theorem pIn_bd (fs : List FField) (st : Int × List Int) (k : Nat) : st.1 ≤ (pIn fs st k).1 ∧ (pIn fs st k).1 ≤ st.1 + k ∧ (pIn fs st k).2.length = st.2.length := by
  induction k with
  | zero => simp [pIn]
  | succ k ih =>
    simp only [pIn, pStep]
    split <;> simp <;> omega

/-- what is known of the world while Words runs: R, S, O, G: the blocks of the argument, the result, the answer, the places -/
structure WordsInv (w wr : World) (nm : ByteArray) (sl : Value) (n O G : Nat) (ptrs : Int) (ats : List Int) : Prop where
  below : Below w.heap.size w wr
  r : wr.heap[w.heap.size]? = some (.cells #[.string nm, sl] 36 (0, 0))
  s : wr.heap[w.heap.size + 1]? = some (.cells #[.int .i64 0, .int .i64 0, .slice none 0 0] 39 (0, 0))
  o : wr.heap[O]? = some (.cells #[.int .i64 0, .int .i64 ptrs, .slice (some ⟨G, 0, none⟩) n n] 39 (0, 0))
  g : wr.heap[G]? = some (.cells (ats.map (Value.int .i64)).toArray 3 (0, 0))
  len : ats.length = n
  d1 : w.heap.size + 1 < G
  d2 : G < O

theorem WordsInv.frame {w wr wB : World} {nm : ByteArray} {sl : Value} {n O G : Nat} {ptrs : Int} {ats : List Int} (h : WordsInv w wr nm sl n O G ptrs ats) (hb : Below wr.heap.size wr wB) : WordsInv w wB nm sl n O G ptrs ats :=
  ⟨h.below.trans (hb.mono h.below.size), blk_below h.r hb (blk_lt h.r), blk_below h.s hb (blk_lt h.s), blk_below h.o hb (blk_lt h.o), blk_below h.g hb (blk_lt h.g), h.len, h.d1, h.d2⟩
theorem WordsInv.put {w wr : World} {nm : ByteArray} {sl : Value} {n O G : Nat} {ptrs : Int} {ats : List Int} (h : WordsInv w wr nm sl n O G ptrs ats) (k : Nat) (v : Int) : WordsInv w (wr.setCell ⟨G, k, none⟩ (.int .i64 v)) nm sl n O G ptrs (ats.set k v) := by
  have d1 := h.d1
  have d2 := h.d2
  refine ⟨h.below.setCell (by simp; omega) _, blk_set_ne h.r _ (by simp; omega) _, blk_set_ne h.s _ (by simp; omega) _, blk_set_ne h.o _ (by simp; omega) _, ?_, by rw [List.length_set]; exact h.len, d1, d2⟩
  rw [blk_set h.g, ints_put]
theorem WordsInv.ptr {w wr : World} {nm : ByteArray} {sl : Value} {n O G : Nat} {ptrs : Int} {ats : List Int} (h : WordsInv w wr nm sl n O G ptrs ats) (v : Int) : WordsInv w (wr.setCell ⟨O, 1, none⟩ (.int .i64 v)) nm sl n O G v ats := by
  have d1 := h.d1
  have d2 := h.d2
  refine ⟨h.below.setCell (by simp; omega) _, blk_set_ne h.r _ (by simp; omega) _, blk_set_ne h.s _ (by simp; omega) _, ?_, blk_set_ne h.g _ (by simp; omega) _, h.len, d1, d2⟩
  rw [blk_set h.o]; rfl

/-- what Words answers -/
def wordsP (fs : List FField) : Int × List Int := pIn fs (0, (wOut fs 5).2) fs.length
def wordsN (fs : List FField) : Int := ((wOut fs 5).1 + 63) / 64
def PackedPost (w : World) (fs : List FField) (e : Ending) (w' : World) : Prop :=
  ∃ g, e = .returned (.agg #[.int .i64 (wordsN fs), .int .i64 (wordsP fs).1, .slice (some ⟨g, 0, none⟩) fs.length fs.length]) ∧ w.heap.size ≤ g ∧ w'.heap[g]? = some (.cells ((wordsP fs).2.map (Value.int .i64)).toArray 3 (0, 0)) ∧ Below w.heap.size w w'

theorem sizes_ix0 (w : World) : (Instr.index 107 (.agg #[.int .i64 64, .int .i64 32, .int .i64 16, .int .i64 8, .int .i64 1]) (.int .i64 0)).run Try.prog w = .ok (.int .i64 64) w := by kernel_rfl
theorem sizes_ix1 (w : World) : (Instr.index 107 (.agg #[.int .i64 64, .int .i64 32, .int .i64 16, .int .i64 8, .int .i64 1]) (.int .i64 1)).run Try.prog w = .ok (.int .i64 32) w := by kernel_rfl
theorem sizes_ix2 (w : World) : (Instr.index 107 (.agg #[.int .i64 64, .int .i64 32, .int .i64 16, .int .i64 8, .int .i64 1]) (.int .i64 2)).run Try.prog w = .ok (.int .i64 16) w := by kernel_rfl
theorem sizes_ix3 (w : World) : (Instr.index 107 (.agg #[.int .i64 64, .int .i64 32, .int .i64 16, .int .i64 8, .int .i64 1]) (.int .i64 3)).run Try.prog w = .ok (.int .i64 8) w := by kernel_rfl
theorem sizes_ix4 (w : World) : (Instr.index 107 (.agg #[.int .i64 64, .int .i64 32, .int .i64 16, .int .i64 8, .int .i64 1]) (.int .i64 4)).run Try.prog w = .ok (.int .i64 1) w := by kernel_rfl
theorem sizes_ix (z : Nat) (h : z < 5) (w : World) : (Instr.index 107 (.agg #[.int .i64 64, .int .i64 32, .int .i64 16, .int .i64 8, .int .i64 1]) (.int .i64 (z : Int))).run Try.prog w = .ok (.int .i64 (wSize z)) w := by
  have h0 : z = 0 ∨ z = 1 ∨ z = 2 ∨ z = 3 ∨ z = 4 := by omega
  rcases h0 with rfl | rfl | rfl | rfl | rfl
  · exact sizes_ix0 w
  · exact sizes_ix1 w
  · exact sizes_ix2 w
  · exact sizes_ix3 w
  · exact sizes_ix4 w

set_option maxHeartbeats 1000000 in
set_option maxRecDepth 100000 in
theorem layoutWords_calls (nm : ByteArray) (b o c : Nat) (fs : List FField) (hn : fs.length ≤ 16) (w : World) (hb : b < w.heap.size) (hr : FieldsAt w b o fs) :
    Calls Try.prog 19 #[.agg #[.string nm, .slice (some ⟨b, o, none⟩) fs.length c]] w (PackedPost w fs) := by
  obtain ⟨i0, hi, hz0, hz1, hz2⟩ := info_parts info_int
  go_enter Try.func19, Try.ntmps19
  go_wp2_with (first | (at_make; refine wpList_make_full _ rfl _ _ 37 rfl w.heap.size 3 i0 (.int .i64 0) 1 Try.underlying37 hi hz0 hz1 .i64 .i64 _ _ fs.length rfl rfl rfl rfl (by rw [hz2]; omega) (by unfold maxLen; omega) (by simp; omega) ?_))
  intro w1 hown hgr
  go_wp2
  have hG := made_block hown
  rw [made_ints] at hG
  have lG := blk_lt hG
  have hG2 : w.heap.size + 1 < w.heap.size + 1 + 1 := by omega
  clear hown
  generalize w.heap.size + 1 + 1 = G at *
  have hgs := hgr.size
  simp only [World.size_alloc] at hgs
  have hO : WordsInv w (w1.alloc (Obj.cells #[Value.int IntKind.i64 0, Value.int IntKind.i64 0, Value.slice (some ⟨G, 0, none⟩) fs.length fs.length] 39)) nm (.slice (some ⟨b, o, none⟩) fs.length c) fs.length w1.heap.size G 0 (wOut fs 0).2 := by
    refine ⟨?_, ?_, ?_, ?_, blk_alloc hG _, by simp [wOut], hG2, lG⟩
    · exact ((((Below.refl _ _).alloc (Nat.le_refl _) _).alloc (by simp) _).grown hgr (by simp; omega) (by simp)).alloc (by omega) _
    · exact blk_alloc ((hgr.block _ (by simp; omega) (by simp)).trans (blk_alloc (blk_new _ _) _)) _
    · refine blk_alloc ((hgr.block _ (by simp) (by simp)).trans ?_) _
      have := blk_new (w.alloc (Obj.cells #[Value.string nm, Value.slice (some ⟨b, o, none⟩) fs.length c] 36)) (Obj.cells #[Value.int IntKind.i64 0, Value.int IntKind.i64 0, Value.slice none 0 0] 39)
      simpa using this
    · exact blk_new _ _
  go_loopw [4, 17] (fun v4 v17 wr => ∃ z : Nat, z ≤ 5 ∧ v17 = .int .i64 z ∧ v4 = .int .i64 (wOut fs z).1 ∧ WordsInv w wr nm (.slice (some ⟨b, o, none⟩) fs.length c) fs.length w1.heap.size G 0 (wOut fs z).2) (fun _ v17 _ => 5 - (intOf v17).toNat)
  case atStart => exact ⟨0, by omega, rfl, rfl, hO⟩
  case round =>
    obtain ⟨z, hz, rfl, rfl, hI⟩ := hrel
    have hbd := wOut_bd fs z
    have hle := wOut_le fs hn z
    have cR : wr.cell? ⟨w.heap.size, 1, none⟩ = some (.slice (some ⟨b, o, none⟩) fs.length c) := by rw [blk_cell hI.r]; rfl
    by_cases hz5 : z < 5
    · have hix := fun W => sizes_ix z hz5 W
      have hzd : decide ((z : Int) < 5) = true := by simp; omega
      go_wp2_with fail
      obtain ⟨st, hst⟩ : ∃ st, st = wOut fs z := ⟨_, rfl⟩
      rw [← hst] at hI hbd hle
      rw [← hst]
      obtain ⟨size, hsz⟩ : ∃ s, s = wSize z := ⟨_, rfl⟩
      have hsb := wSizes_bd z
      rw [← hsz] at hsb
      rw [← hsz]
      have HST := Lib.hid hst
      have HSZ := Lib.hid hsz
      clear hst hsz hix cR hzd
      go_loopw [4, 23] (fun v4 v23 wr => ∃ k : Nat, k ≤ fs.length ∧ v23 = .int .i64 k ∧ v4 = .int .i64 (wIn fs size st k).1 ∧ WordsInv w wr nm (.slice (some ⟨b, o, none⟩) fs.length c) fs.length w1.heap.size G 0 (wIn fs size st k).2) (fun _ v23 _ => fs.length - (intOf v23).toNat)
      case atStart => exact ⟨0, by omega, rfl, rfl, hI⟩
      case round =>
        obtain ⟨k, hk, rfl, rfl, hJ⟩ := hrel
        have hbk := wIn_bd fs size hsb.1 hsb.2 st k
        by_cases hkn : k < fs.length
        · obtain ⟨r0, r1, r2, r3, r4⟩ := hr.below hJ.below hb k hkn
          have cO : wr.cell? ⟨w1.heap.size, 2, none⟩ = some (.slice (some ⟨G, 0, none⟩) fs.length fs.length) := by rw [blk_cell hJ.o]; rfl
          have cG : wr.cell? ⟨G, k, none⟩ = some (.int .i64 (wIn fs size st k).2[k]!) := by rw [blk_cell hJ.g, ints_get (by omega)]
          have fG : wr.frozen? ⟨G, k, none⟩ = false := blk_frozen hJ.g _
          have lO := blk_lt hJ.o
          have lG := blk_lt hJ.g
          go_wp2_with (first | (go_at_call 45; refine (layoutNumber_calls _ _ _ _ _ _).mono ?_; rintro e wB ⟨rfl, hB⟩; have hzB := hB.size; (try simp only [World.size_alloc, World.size_setCell, World.size_drew] at hzB); obtain ⟨hcB, hfB⟩ := bcell hB) | (go_at_call 15; refine (layoutBits_calls _ _).mono ?_; rintro e w' ⟨rfl, rfl⟩))
          · go_roundw
            case rel =>
              have hs : wIn fs size st (k + 1) = ((wIn fs size st k).1 + size, (wIn fs size st k).2.set k (wIn fs size st k).1) := by
                simp only [wIn, wStep]; rw [if_pos ⟨by assumption, by simpa using (by assumption : (kindBits (fget fs k).kind == size) = true)⟩]
              refine ⟨k + 1, by omega, by go_num, by rw [hs], ?_⟩
              rw [hs]
              exact (hJ.frame ((below1 _ _).trans (hB.mono (by simp)))).put k _
            case measure => simp [intOf]; omega
          · go_roundw
            case rel =>
              have hs : wIn fs size st (k + 1) = wIn fs size st k := by
                simp only [wIn, wStep]; rw [if_neg (fun h => by have := (by assumption : (kindBits (fget fs k).kind == size) = false); simp [h.2] at this)]
              rw [← hs]
              exact ⟨k + 1, by omega, by go_num, rfl, by rw [hs]; exact hJ.frame ((below1 _ _).trans (hB.mono (by simp)))⟩
            case measure => simp [intOf]; omega
          · go_roundw
            case rel =>
              have hs : wIn fs size st (k + 1) = wIn fs size st k := by
                simp only [wIn, wStep]; rw [if_neg (fun h => absurd h.1 (by assumption))]
              rw [← hs]
              exact ⟨k + 1, by omega, by go_num, rfl, by rw [hs]; exact hJ.frame ((below1 _ _).trans (hB.mono (by simp)))⟩
            case measure => simp [intOf]; omega
        · obtain rfl : k = fs.length := by omega
          have hs : wIn fs size st fs.length = wOut fs (z + 1) := by rw [HST.out, HSZ.out]; rfl
          go_wp2
          go_roundw
          case rel => exact ⟨z + 1, by omega, by go_num, by rw [hs], by rw [← hs]; exact hJ⟩
          case measure => simp [intOf]; omega
    · have hz5' := Lib.hid (show z = 5 by omega)
      have hzd : decide ((z : Int) < 5) = false := by simp; omega
      obtain ⟨st, hst⟩ : ∃ st, st = wOut fs z := ⟨_, rfl⟩
      rw [← hst] at hI hbd hle
      have hle5 : st.1 ≤ 5120 := by omega
      rw [← hst]
      have HST := Lib.hid hst
      clear hst
      go_wp2
      clear cR hzd
      go_loopw [51] (fun v51 wr => ∃ k : Nat, k ≤ fs.length ∧ v51 = .int .i64 k ∧ WordsInv w wr nm (.slice (some ⟨b, o, none⟩) fs.length c) fs.length w1.heap.size G (pIn fs (0, st.2) k).1 (pIn fs (0, st.2) k).2) (fun v51 _ => fs.length - (intOf v51).toNat)
      case atStart => exact ⟨0, by omega, rfl, hI⟩
      case round =>
        obtain ⟨k, hk, rfl, hJ⟩ := hrel
        have hbk := pIn_bd fs (0, st.2) k
        simp only [] at hbk
        by_cases hkn : k < fs.length
        · obtain ⟨r0, r1, r2, r3, r4⟩ := hr.below hJ.below hb k hkn
          have cO : wr.cell? ⟨w1.heap.size, 2, none⟩ = some (.slice (some ⟨G, 0, none⟩) fs.length fs.length) := by rw [blk_cell hJ.o]; rfl
          have cO1 : wr.cell? ⟨w1.heap.size, 1, none⟩ = some (.int .i64 (pIn fs (0, st.2) k).1) := by rw [blk_cell hJ.o]; rfl
          have fO1 : wr.frozen? ⟨w1.heap.size, 1, none⟩ = false := blk_frozen hJ.o _
          have cG : wr.cell? ⟨G, k, none⟩ = some (.int .i64 (pIn fs (0, st.2) k).2[k]!) := by rw [blk_cell hJ.g, ints_get (by omega)]
          have fG : wr.frozen? ⟨G, k, none⟩ = false := blk_frozen hJ.g _
          have lO := blk_lt hJ.o
          have lG := blk_lt hJ.g
          have nG : ¬ w1.heap.size = G := by omega
          go_wp2_with (first | (go_at_call 45; refine (layoutNumber_calls _ _ _ _ _ _).mono ?_; rintro e wB ⟨rfl, hB⟩; have hzB := hB.size; (try simp only [World.size_alloc, World.size_setCell, World.size_drew] at hzB); obtain ⟨hcB, hfB⟩ := bcell hB))
          · go_roundw
            case rel =>
              have hs : pIn fs (0, st.2) (k + 1) = ((pIn fs (0, st.2) k).1 + 1, (pIn fs (0, st.2) k).2.set k (pIn fs (0, st.2) k).1) := by
                simp only [pIn, pStep]; rw [if_neg (by simpa using (by assumption : (!isNumB (fget fs k).kind (fget fs k).lists) = true))]
              refine ⟨k + 1, by omega, by go_num, ?_⟩
              rw [hs]
              exact ((hJ.frame ((below1 _ _).trans (hB.mono (by simp)))).put k _).ptr _
            case measure => simp [intOf]; omega
          · go_roundw
            case rel =>
              have hs : pIn fs (0, st.2) (k + 1) = pIn fs (0, st.2) k := by
                simp only [pIn, pStep]; rw [if_pos (by simpa using (by assumption : (!isNumB (fget fs k).kind (fget fs k).lists) = false))]
              refine ⟨k + 1, by omega, by go_num, ?_⟩
              rw [hs]
              exact hJ.frame ((below1 _ _).trans (hB.mono (by simp)))
            case measure => simp [intOf]; omega
        · obtain rfl : k = fs.length := by omega
          have c0 : wr.cell? ⟨w1.heap.size, 0, none⟩ = some (.int .i64 0) := by rw [blk_cell hJ.o]; rfl
          have c1 : wr.cell? ⟨w1.heap.size, 1, none⟩ = some (.int .i64 (pIn fs (0, st.2) fs.length).1) := by rw [blk_cell hJ.o]; rfl
          have c2 : wr.cell? ⟨w1.heap.size, 2, none⟩ = some (.slice (some ⟨G, 0, none⟩) fs.length fs.length) := by rw [blk_cell hJ.o]; rfl
          have f0 : wr.frozen? ⟨w1.heap.size, 0, none⟩ = false := blk_frozen hJ.o _
          have s0 : wr.cell? ⟨w.heap.size + 1, 0, none⟩ = some (.int .i64 0) := by rw [blk_cell hJ.s]; rfl
          have s1 : wr.cell? ⟨w.heap.size + 1, 1, none⟩ = some (.int .i64 0) := by rw [blk_cell hJ.s]; rfl
          have s2 : wr.cell? ⟨w.heap.size + 1, 2, none⟩ = some (.slice none 0 0) := by rw [blk_cell hJ.s]; rfl
          have fs0 : ∀ j, wr.frozen? ⟨w.heap.size + 1, j, none⟩ = false := fun j => blk_frozen hJ.s _
          have nS : ¬ w1.heap.size = w.heap.size + 1 := by omega
          have nS' : ¬ w.heap.size + 1 = w1.heap.size := by omega
          go_wp2
          refine bodyPost_ret (v := .agg #[.int .i64 ((st.1 + 63) / 64), .int .i64 (pIn fs (0, st.2) fs.length).1, .slice (some ⟨G, 0, none⟩) fs.length fs.length]) (by simp [results, Try.results19, go_sem, *]) rfl ?_
          refine ⟨G, by simp only [wordsN, wordsP]; rw [← hz5'.out, ← HST.out], by omega, ?_, ?_⟩
          · simp only [wordsP]
            rw [← hz5'.out, ← HST.out]
            exact blk_set_ne (blk_set_ne (blk_set_ne (blk_set_ne hJ.g _ (by simp; omega) _) _ (by simp; omega) _) _ (by simp; omega) _) _ (by simp; omega) _
          · exact (((hJ.below.setCell (by simp; omega) _).setCell (by simp) _).setCell (by simp) _).setCell (by simp) _

end Go.Proofs.Ytlfpakopahmdiaa
