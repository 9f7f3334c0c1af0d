/-
  LexTokens: the walk.
-/
import Derived.Test.YtgoaiokpnifhfaaDoorAwake03
import Derived.Test.YtgoaiokpnifhfaaDoorRefToks
namespace Go.Proofs.YtgoaiokpnifhfaaDoor
open Go.RowKit
set_option linter.unusedVariables false
set_option linter.unusedSimpArgs false

def sgAll : ByteArray := ⟨#[123, 125, 58, 59, 61, 44, 60, 62, 46, 91, 93, 42, 33, 38, 124, 40, 41, 35, 63, 45]⟩
theorem sgAll_low : ∀ j, j < sgAll.size → bt sgAll j < 128 := by decide +kernel
theorem sgAll_size : sgAll.size = 20 := rfl
theorem low_snoc {a : ByteArray} {p : Nat} (h : ∀ j, j < a.size → bt a j < 128) : ∀ j, j < (a ++ sgAll.extract p (p + 1)).size → bt (a ++ sgAll.extract p (p + 1)) j < 128 := by
  intro j hj
  rw [bt_list, ByteArray.data_append, Array.toList_append]
  by_cases hja : j < a.size
  · rw [List.getElem?_append_left (by simpa using hja), ← bt_list]
    exact h j hja
  · rw [List.getElem?_append_right (by simpa using Nat.le_of_not_lt hja), ← bt_list]
    by_cases hp : j - a.data.toList.length < (sgAll.extract p (p + 1)).size
    · have hz : (sgAll.extract p (p + 1)).size ≤ sgAll.size - p := by rw [ByteArray.size_extract]; omega
      have hb : bt (sgAll.extract p (p + 1)) (j - a.data.toList.length) = bt sgAll (p + (j - a.data.toList.length)) := by
        rw [ByteArray.size_extract] at hp
        have hq : p + 1 ≤ sgAll.size ∨ sgAll.size < p + 1 := by omega
        rcases hq with hq | hq
        · exact bt_piece _ _ _ _ (by omega) hq
        · omega
      rw [hb]
      exact sgAll_low _ (by omega)
    · rw [bt_out _ _ hp]; decide

theorem toksF_len (s sg : ByteArray) : ∀ (n i : Nat) (l : List Tok), toksF s sg n i = .ok l → l.length ≤ n := by
  intro n
  induction n with
  | zero => intro i l h; simp [toksF] at h
  | succ n ih =>
    intro i l h
    simp only [toksF] at h
    split at h
    · cases h
    · split at h
      · cases h; simp
      · split at h
        · cases h
        · rename_i l' hl'
          cases h
          have := ih _ _ hl'
          simp; omega
theorem toks_len {s sg : ByteArray} {l : List Tok} (h : toks s sg = .ok l) : l.length ≤ 2048 := by
  unfold toks at h
  split at h
  · cases h
  · exact toksF_len s sg _ 0 l h

set_option maxHeartbeats 2000000 in
set_option maxRecDepth 100000 in
theorem lexTokens_walk (s : ByteArray) (mask : Int) (w : World) (hT : Tabs w) (hs : s.size ≤ 140737488351232) (hz : (Lit.int .u32 mask).wf = true) :
    Calls Tryd.prog 3 #[.string s, .int .u32 mask] w fun e w' => e = .returned (.bool true) ∧ Below w.heap.size w w' := by
  have HTB := Lib.hid hT
  clear hT hz
  by_cases hbig : 20000 < s.size
  · have hd : decide ((20000 : Int) < (s.size : Int)) = true := decide_eq_true (by omega)
    clear hbig
    go_enter Tryd.func3, Tryd.ntmps3
    go_wp2_with (first | (go_at_call 10; refine (awake03_calls _).mono ?_; rintro e wB ⟨rfl, hB⟩; have hzB := hB.size; (try simp only [World.size_alloc, World.size_setCell, World.size_drew] at hzB); obtain ⟨hcB, hfB⟩ := bcell hB))
    go_ret
    exact ⟨rfl, hB⟩
  · have hd : decide ((20000 : Int) < (s.size : Int)) = false := decide_eq_false (by omega)
    clear hbig
    go_enter Tryd.func3, Tryd.ntmps3
    go_wp2_with (first | (go_at_call 10; refine (awake03_calls _).mono ?_; rintro e wB ⟨rfl, hB⟩; have hzB := hB.size; (try simp only [World.size_alloc, World.size_setCell, World.size_drew] at hzB); obtain ⟨hcB, hfB⟩ := bcell hB))
    have HB := Lib.hid hB
    clear hcB hfB hB
    go_loopw [5, 6] (fun v5 _ wr => ∃ (pos : Nat) (sg : ByteArray), wr.heap[wB.heap.size]? = some (.stringIter sgAll pos) ∧ Below wB.heap.size wB wr ∧ v5 = .string sg ∧ sg.size ≤ pos ∧ sg.size ≤ 20 ∧ Hid (∀ j, j < sg.size → bt sg j < 128)) (fun _ _ wr => 20 - wr.iterPos wB.heap.size)
    case atStart => exact ⟨0, ⟨#[]⟩, blk_new _ _, (Below.refl _ _).alloc (Nat.le_refl _) _, rfl, by decide, by decide, fun j hj => absurd hj (Nat.not_lt_zero j)⟩
    case round =>
      obtain ⟨pos, sg, hit, hbw, rfl, hz1, hz2, hlow⟩ := hrel
      by_cases hp : pos < sgAll.size
      · obtain ⟨W2, r, wd, hnx, hit2, hoth, hs2, hb2, htop, hwd, hrun⟩ := next_some (P := Tryd.prog) wr wB.heap.size sgAll pos hit hp
        rw [sgAll_size] at hp
        have hpI : (pos : Int) + 1 ≤ 20 := by omega
        have hp0 : (0 : Int) ≤ (pos : Int) := by omega
        have Hpos := Lib.hid (iterPos_of hit)
        have hbw2 := hbw.trans hb2
        have HIT := Lib.hid hit2
        clear hrun hit hoth hbw hb2 hit2 htop
        go_wp2
        · go_roundw
          case rel =>
            refine ⟨pos + wd, sg ++ sgAll.extract pos (pos + 1), HIT.out, hbw2, rfl, ?_, ?_, low_snoc hlow.out⟩
            · rw [ByteArray.size_append, piece_size _ _ _ (by rw [sgAll_size]; omega)]; omega
            · rw [ByteArray.size_append, piece_size _ _ _ (by rw [sgAll_size]; omega)]; omega
          case measure => rw [Hpos.out, iterPos_of HIT.out]; omega
        · go_roundw
          case rel => exact ⟨pos + wd, sg, HIT.out, hbw2, rfl, by omega, hz2, hlow⟩
          case measure => rw [Hpos.out, iterPos_of HIT.out]; omega
      · have hnx : ∀ ty, (Instr.next (.pointer (some ⟨wB.heap.size, 0, none⟩)) true ty).run Tryd.prog wr = _ := fun ty => Lib.run_next_end_at wr wB.heap.size sgAll pos ty hit hp
        have HBW := Lib.hid (HB.out.trans (hbw.mono hzB))
        have h1 := tokens_calls s sg wr hs hlow.out
        have h2 := fun (W : World) (hT : Tabs W) => refTokens_calls s sg W hT hs (by omega)
        obtain ⟨o, ho⟩ : ∃ o, o = toks s sg := ⟨_, rfl⟩
        rw [← ho] at h1 h2
        unfold TokensPost at h1
        unfold RefToksPost at h2
        have HO := Lib.hid ho
        clear hit hbw ho
        cases o with
        | error x =>
          obtain ⟨c, p⟩ := x
          have H1 := Lib.hid h1
          have H2 := Lib.hid h2
          clear h1 h2
          go_wp2_with fail
          refine H1.out.mono ?_
          rintro e w1 ⟨hB1, rfl⟩
          have HB1 := Lib.hid (HBW.out.trans (hB1.mono HBW.out.size))
          clear hB1
          go_wp2_with fail
          refine (H2.out _ (HTB.out.below (HB1.out.alloc HB1.out.size _))).mono ?_
          rintro e w2 ⟨hB2, rfl⟩
          have hF := blk_below (blk_new w1 (.cells #[.int .i64 c, .int .i64 (p : Int)] 27 (0, 0))) hB2 (by simp)
          have q0 : w2.cell? ⟨w1.heap.size, 0, none⟩ = some (.int .i64 c) := by rw [blk_cell hF]; rfl
          have q1 : w2.cell? ⟨w1.heap.size, 1, none⟩ = some (.int .i64 (p : Int)) := by rw [blk_cell hF]; rfl
          have HB2 := Lib.hid ((HB1.out.alloc HB1.out.size _).trans (hB2.mono (by have := HB1.out.size; simp; omega)))
          clear hB2 hF
          go_wp2_with fail
          refine (sameToks_calls none none 0 0 [] (by decide) w2 (fun h => absurd h (by decide)) (fun h => absurd h (by decide))).mono ?_
          rintro e w3 ⟨rfl, hB3⟩
          have HB3 := Lib.hid (HB2.out.trans (hB3.mono HB2.out.size))
          clear hB3 q0 q1
          go_wp2_with fail
          go_ret
          exact ⟨rfl, HB3.out⟩
        | ok l =>
          have hl : l.length ≤ 2048 := toks_len HO.out.symm
          have H1 := Lib.hid h1
          have H2 := Lib.hid h2
          clear h1 h2
          go_wp2_with fail
          refine H1.out.mono ?_
          rintro e w1 ⟨hB1, v1, rfl, hown1⟩
          obtain ⟨a1, c1, rfl⟩ := own_len hown1
          have HR1 := Lib.hid (tokRow_owned hown1)
          have HB1 := Lib.hid (HBW.out.trans (hB1.mono HBW.out.size))
          clear hB1 hown1
          go_wp2_with fail
          refine (H2.out _ (HTB.out.below (HB1.out.alloc HB1.out.size _))).mono ?_
          rintro e w2 ⟨hB2, v2, rfl, hown2⟩
          obtain ⟨a2, c2, rfl⟩ := own_len hown2
          have HR2 := Lib.hid (tokRow_owned hown2)
          have HR1' := Lib.hid ((HR1.out.below (below1 _ _)).below hB2)
          have hF := blk_below (blk_new w1 (.cells #[.int .i64 0, .int .i64 0] 27 (0, 0))) hB2 (by simp)
          have q0 : w2.cell? ⟨w1.heap.size, 0, none⟩ = some (.int .i64 0) := by rw [blk_cell hF]; rfl
          have q1 : w2.cell? ⟨w1.heap.size, 1, none⟩ = some (.int .i64 0) := by rw [blk_cell hF]; rfl
          have HB2 := Lib.hid ((HB1.out.alloc HB1.out.size _).trans (hB2.mono (by have := HB1.out.size; simp; omega)))
          clear hB2 hF hown2
          go_wp2_with fail
          refine (sameToks_calls a1 a2 c1 c2 l (by omega) w2 HR1'.out HR2.out).mono ?_
          rintro e w3 ⟨rfl, hB3⟩
          have HB3 := Lib.hid (HB2.out.trans (hB3.mono HB2.out.size))
          clear hB3 q0 q1
          go_wp2_with fail
          go_ret
          exact ⟨rfl, HB3.out⟩

end Go.Proofs.YtgoaiokpnifhfaaDoor
