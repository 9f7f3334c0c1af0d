/-
  layout.Units and the document's Units.
-/
import Derived.Test.YtlfpakopahmdiaaRunes
namespace Go.Proofs.Ytlfpakopahmdiaa
open Go.RowKit
set_option linter.unusedVariables false
set_option linter.unusedSimpArgs false

theorem info_u16 : (Try.prog.info? 50).map (fun i => (i.zero, i.size, i.bytes)) = some (some (.int .u16 0), 1, 2) := by kernel_rfl

set_option maxHeartbeats 1000000 in
set_option maxRecDepth 100000 in
theorem layoutUnits_calls (s : ByteArray) (hs : s.size ≤ 100000) (w : World) :
    Calls Try.prog 22 #[.string s] w fun e w' => ∃ v, e = .returned v ∧ w'.ownsRow w.heap.size 50 1 v (unitsOf s).length ((unitsOf s).map (Value.int .u16)) ∧ Below w.heap.size w w' := by
  obtain ⟨i0, hi, hz0, hz1, hz2⟩ := info_parts info_u16
  go_enter Try.func22, Try.ntmps22
  go_wp2
  go_loopw [3, 5] (fun v3 _ wr => ∃ (pos fuel : Nat) (acc : List Int), wr.ownsRow (w.heap.size + 1) 50 1 v3 acc.length (acc.map (Value.int .u16)) ∧ wr.heap[w.heap.size]? = some (.stringIter s pos) ∧ Below w.heap.size w wr ∧ acc ++ (runesL s fuel pos).flatMap unitsOne = unitsOf s ∧ s.size ≤ pos + fuel ∧ acc.length ≤ 2 * pos) (fun _ _ wr => s.size - wr.iterPos w.heap.size)
  case atStart =>
    refine ⟨0, s.size, [], World.ownsRow_nil _ _ _ _, blk_new _ _, (Below.refl _ w).alloc (Nat.le_refl _) _, rfl, by omega, by simp⟩
  case round =>
    obtain ⟨pos, fuel, acc, hown, hit, hbw, hacc, hfu, hal⟩ := hrel
    have hsz := blk_lt hit
    by_cases hp : pos < s.size
    · obtain ⟨W2, r, wd, hnx, hit2, hoth, hs2, hb2, htop, hwd, hrun⟩ := next_some (P := Try.prog) wr w.heap.size s pos hit hp
      have hown2 : W2.ownsRow (w.heap.size + 1) 50 1 u3 acc.length (acc.map (Value.int .u16)) := ownsRow_at hown (fun g hg => hoth g (by have := hown.lt g hg; omega))
      obtain ⟨f, rfl⟩ : ∃ f, fuel = f + 1 := ⟨fuel - 1, by omega⟩
      rw [hrun f] at hacc
      have Hacc := Lib.hid hacc
      have hsz2 : w.heap.size < W2.heap.size := by omega
      have hbw2 := hbw.trans hb2
      have Hpos := Lib.hid (iterPos_of hit)
      clear hacc hrun hit hoth hown hbw hb2
      have Htop := Lib.hid htop
      have htopI : (r : Int) ≤ 1114111 := by omega
      clear htop
      by_cases hr : 65536 ≤ r
      · have Hr := Lib.hid hr
        have hrb : decide ((65536 : Int) ≤ (r : Int)) = true := by simp; omega
        clear hr
        have hand := i32_and1023 ((r : Int) - 65536)
        go_wp2_with (at_builtin; refine wpList_append_own _ rfl _ _ 47 rfl (w.heap.size + 1) 50 i0 (.int .u16 0) 1 2 Try.underlying47 hi hz0 hz1 hz2 rfl (by decide) _ _ _ rfl (hown2.alloc _) ⟨W2.heap.size, 0, none⟩ 2 2 [_, _] rfl rfl (cell_two_new _ _ _ _) (by simp [Value.oneCell']) (by unfold maxLen; omega) (by omega) (by simp; omega) ?_)
        intro v' w1 hown1 hgr1 _
        have hlt := hown2.lt
        clear hand hown2
        go_wp2
        go_roundw
        case rel =>
          have hz1' : w.heap.size + 1 ≤ w1.heap.size := by have := hgr1.size; simp at this; omega
          have hit3 : w1.heap[w.heap.size]? = some (.stringIter s (pos + wd)) := (hgr1.block _ (by simp; omega) (fun e => by have := hlt _ e.symm; omega)).trans (blk_alloc hit2 _)
          refine ⟨pos + wd, f, acc ++ unitsOne r, ?_, hit3, ?_, ?_, by omega, ?_⟩
          · simp only [unitsOne, if_pos Hr.out, List.map_append, List.length_append]; exact hown1
          · exact ((hbw2.alloc (by omega) _).grown hgr1 (by simp; omega) (fun k e => by have := hlt k e; omega))
          · rw [← Hacc.out]; simp
          · have := unitsOne_len r; simp; omega
        case measure =>
          have hit3 : w1.heap[w.heap.size]? = some (.stringIter s (pos + wd)) := (hgr1.block _ (by simp; omega) (fun e => by have := hlt _ e.symm; omega)).trans (blk_alloc hit2 _)
          rw [Hpos.out, iterPos_of hit3]
          omega
      · have hrb : decide ((65536 : Int) ≤ (r : Int)) = false := by simp; omega
        have Hr := Lib.hid hr
        have hrI : (r : Int) < 65536 := by omega
        clear hr
        go_wp2_with (at_builtin; refine wpList_append_own _ rfl _ _ 47 rfl (w.heap.size + 1) 50 i0 (.int .u16 0) 1 2 Try.underlying47 hi hz0 hz1 hz2 rfl (by decide) _ _ _ rfl (hown2.alloc _) ⟨W2.heap.size, 0, none⟩ 1 1 [_] rfl rfl (cell_one_new _ _ _) (by simp [Value.oneCell']) (by unfold maxLen; omega) (by omega) (by simp; omega) ?_)
        intro v' w1 hown1 hgr1 _
        have hlt := hown2.lt
        clear hown2
        go_wp2
        go_roundw
        case rel =>
          have hz1' : w.heap.size + 1 ≤ w1.heap.size := by have := hgr1.size; simp at this; omega
          have hit3 : w1.heap[w.heap.size]? = some (.stringIter s (pos + wd)) := (hgr1.block _ (by simp; omega) (fun e => by have := hlt _ e.symm; omega)).trans (blk_alloc hit2 _)
          refine ⟨pos + wd, f, acc ++ unitsOne r, ?_, hit3, ?_, ?_, by omega, ?_⟩
          · simp only [unitsOne, if_neg Hr.out, List.map_append, List.length_append]; exact hown1
          · exact ((hbw2.alloc (by omega) _).grown hgr1 (by simp; omega) (fun k e => by have := hlt k e; omega))
          · rw [← Hacc.out]; simp
          · have := unitsOne_len r; simp; omega
        case measure =>
          have hit3 : w1.heap[w.heap.size]? = some (.stringIter s (pos + wd)) := (hgr1.block _ (by simp; omega) (fun e => by have := hlt _ e.symm; omega)).trans (blk_alloc hit2 _)
          rw [Hpos.out, iterPos_of hit3]
          omega
    · have hnx : ∀ ty, (Instr.next (.pointer (some ⟨w.heap.size, 0, none⟩)) true ty).run Try.prog wr = _ := fun ty => Lib.run_next_end_at wr w.heap.size s pos ty hit hp
      rw [runesL_end s fuel pos hp] at hacc
      have Hacc := Lib.hid hacc
      clear hacc
      go_wp2
      go_ret
      have hu : acc = unitsOf s := by rw [← Hacc.out]; simp
      subst hu
      exact ⟨u3, rfl, ownsRow_base hown (by omega), hbw⟩

set_option maxHeartbeats 1000000 in
set_option maxRecDepth 100000 in
theorem refUnits_calls (s : ByteArray) (hs : s.size ≤ 100000) (w : World) :
    Calls Try.prog 23 #[.string s] w fun e w' => ∃ v, e = .returned v ∧ w'.ownsRow w.heap.size 3 1 v (unitsOf s).length ((unitsOf s).map (Value.int .i64)) ∧ Below w.heap.size w w' := by
  obtain ⟨i0, hi, hz0, hz1, hz2⟩ := info_parts info_int
  go_enter Try.func23, Try.ntmps23
  go_wp2
  go_loopw [3, 5, 6] (fun v3 _ _ wr => ∃ (pos fuel : Nat) (acc : List Int), wr.ownsRow (w.heap.size + 1) 3 1 v3 acc.length (acc.map (Value.int .i64)) ∧ wr.heap[w.heap.size]? = some (.stringIter s pos) ∧ Below w.heap.size w wr ∧ acc ++ (runesL s fuel pos).flatMap unitsOne = unitsOf s ∧ s.size ≤ pos + fuel ∧ acc.length ≤ 2 * pos) (fun _ _ _ wr => s.size - wr.iterPos w.heap.size)
  case atStart =>
    refine ⟨0, s.size, [], World.ownsRow_nil _ _ _ _, blk_new _ _, (Below.refl _ w).alloc (Nat.le_refl _) _, rfl, by omega, by simp⟩
  case round =>
    obtain ⟨pos, fuel, acc, hown, hit, hbw, hacc, hfu, hal⟩ := hrel
    have hsz := blk_lt hit
    by_cases hp : pos < s.size
    · obtain ⟨W2, r, wd, hnx, hit2, hoth, hs2, hb2, htop, hwd, hrun⟩ := next_some (P := Try.prog) wr w.heap.size s pos hit hp
      have hown2 : W2.ownsRow (w.heap.size + 1) 3 1 u3 acc.length (acc.map (Value.int .i64)) := ownsRow_at hown (fun g hg => hoth g (by have := hown.lt g hg; omega))
      obtain ⟨f, rfl⟩ : ∃ f, fuel = f + 1 := ⟨fuel - 1, by omega⟩
      rw [hrun f] at hacc
      have Hacc := Lib.hid hacc
      have hsz2 : w.heap.size < W2.heap.size := by omega
      have hbw2 := hbw.trans hb2
      have Hpos := Lib.hid (iterPos_of hit)
      clear hacc hrun hit hoth hown hbw hb2
      have Htop := Lib.hid htop
      have htopI : (r : Int) ≤ 1114111 := by omega
      clear htop
      by_cases hr : 65536 ≤ r
      · have Hr := Lib.hid hr
        have hrb : decide ((65535 : Int) < (r : Int)) = true := by simp; omega
        have hrI : (65536 : Int) ≤ (r : Int) := by omega
        clear hr
        go_wp2_with (at_builtin; refine wpList_append_own _ rfl _ _ 37 rfl (w.heap.size + 1) 3 i0 (.int .i64 0) 1 8 Try.underlying37 hi hz0 hz1 hz2 rfl (by decide) _ _ _ rfl (hown2.alloc _) ⟨W2.heap.size, 0, none⟩ 2 2 [_, _] rfl rfl (cell_two_new _ _ _ _) (by simp [Value.oneCell']) (by unfold maxLen; omega) (by omega) (by simp; omega) ?_)
        intro v' w1 hown1 hgr1 _
        have hlt := hown2.lt
        clear hown2
        go_wp2
        go_roundw
        case rel =>
          have hz1' : w.heap.size + 1 ≤ w1.heap.size := by have := hgr1.size; simp at this; omega
          have hit3 : w1.heap[w.heap.size]? = some (.stringIter s (pos + wd)) := (hgr1.block _ (by simp; omega) (fun e => by have := hlt _ e.symm; omega)).trans (blk_alloc hit2 _)
          refine ⟨pos + wd, f, acc ++ unitsOne r, ?_, hit3, ?_, ?_, by omega, ?_⟩
          · simp only [unitsOne, if_pos Hr.out, List.map_append, List.length_append]; exact hown1
          · exact ((hbw2.alloc (by omega) _).grown hgr1 (by simp; omega) (fun k e => by have := hlt k e; omega))
          · rw [← Hacc.out]; simp
          · have := unitsOne_len r; simp; omega
        case measure =>
          have hit3 : w1.heap[w.heap.size]? = some (.stringIter s (pos + wd)) := (hgr1.block _ (by simp; omega) (fun e => by have := hlt _ e.symm; omega)).trans (blk_alloc hit2 _)
          rw [Hpos.out, iterPos_of hit3]
          omega
      · have hrb : decide ((65535 : Int) < (r : Int)) = false := by simp; omega
        have Hr := Lib.hid hr
        have hrI : (r : Int) < 65536 := by omega
        clear hr
        go_wp2_with (at_builtin; refine wpList_append_own _ rfl _ _ 37 rfl (w.heap.size + 1) 3 i0 (.int .i64 0) 1 8 Try.underlying37 hi hz0 hz1 hz2 rfl (by decide) _ _ _ rfl (hown2.alloc _) ⟨W2.heap.size, 0, none⟩ 1 1 [_] rfl rfl (cell_one_new _ _ _) (by simp [Value.oneCell']) (by unfold maxLen; omega) (by omega) (by simp; omega) ?_)
        intro v' w1 hown1 hgr1 _
        have hlt := hown2.lt
        clear hown2
        go_wp2
        go_roundw
        case rel =>
          have hz1' : w.heap.size + 1 ≤ w1.heap.size := by have := hgr1.size; simp at this; omega
          have hit3 : w1.heap[w.heap.size]? = some (.stringIter s (pos + wd)) := (hgr1.block _ (by simp; omega) (fun e => by have := hlt _ e.symm; omega)).trans (blk_alloc hit2 _)
          refine ⟨pos + wd, f, acc ++ unitsOne r, ?_, hit3, ?_, ?_, by omega, ?_⟩
          · simp only [unitsOne, if_neg Hr.out, List.map_append, List.length_append]; exact hown1
          · exact ((hbw2.alloc (by omega) _).grown hgr1 (by simp; omega) (fun k e => by have := hlt k e; omega))
          · rw [← Hacc.out]; simp
          · have := unitsOne_len r; simp; omega
        case measure =>
          have hit3 : w1.heap[w.heap.size]? = some (.stringIter s (pos + wd)) := (hgr1.block _ (by simp; omega) (fun e => by have := hlt _ e.symm; omega)).trans (blk_alloc hit2 _)
          rw [Hpos.out, iterPos_of hit3]
          omega
    · have hnx : ∀ ty, (Instr.next (.pointer (some ⟨w.heap.size, 0, none⟩)) true ty).run Try.prog wr = _ := fun ty => Lib.run_next_end_at wr w.heap.size s pos ty hit hp
      rw [runesL_end s fuel pos hp] at hacc
      have Hacc := Lib.hid hacc
      clear hacc
      go_wp2
      go_ret
      have hu : acc = unitsOf s := by rw [← Hacc.out]; simp
      subst hu
      exact ⟨u3, rfl, ownsRow_base hown (by omega), hbw⟩

end Go.Proofs.Ytlfpakopahmdiaa
