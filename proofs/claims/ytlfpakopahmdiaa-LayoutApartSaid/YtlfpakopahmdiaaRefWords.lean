/-
  The document's Words.
-/
import Derived.Test.YtlfpakopahmdiaaWords
import Derived.Test.YtlfpakopahmdiaaRegion
namespace Go.Proofs.Ytlfpakopahmdiaa
open Go.RowKit
set_option linter.unusedVariables false
set_option linter.unusedSimpArgs false

/-- what is known of the world while the document's Words runs: R: the argument's block, G: the places', Z: the sizes' -/
structure RWordsInv (w wr : World) (nm : ByteArray) (sl : Value) (n G Z : Nat) (ats : List Int) : Prop where
  below : Below w.heap.size w wr
  r : wr.heap[w.heap.size]? = some (.cells #[.string nm, sl] 36 (0, 0))
  g : wr.heap[G]? = some (.cells (ats.map (Value.int .i64)).toArray 3 (0, 0))
  z : wr.heap[Z]? = some (.cells #[.int .i64 64, .int .i64 32, .int .i64 16, .int .i64 8, .int .i64 1] 3 (0, 0))
  len : ats.length = n
  d1 : w.heap.size < G
  d2 : G < Z

theorem RWordsInv.frame {w wr wB : World} {nm : ByteArray} {sl : Value} {n G Z : Nat} {ats : List Int} (h : RWordsInv w wr nm sl n G Z ats) (hb : Below wr.heap.size wr wB) : RWordsInv w wB nm sl n G Z ats :=
  ⟨h.below.trans (hb.mono h.below.size), blk_below h.r hb (blk_lt h.r), blk_below h.g hb (blk_lt h.g), blk_below h.z hb (blk_lt h.z), h.len, h.d1, h.d2⟩
theorem RWordsInv.put {w wr : World} {nm : ByteArray} {sl : Value} {n G Z : Nat} {ats : List Int} (h : RWordsInv w wr nm sl n G Z ats) (k : Nat) (v : Int) : RWordsInv w (wr.setCell ⟨G, k, none⟩ (.int .i64 v)) nm sl n G Z (ats.set k v) := by
  have d1 := h.d1
  have d2 := h.d2
  refine ⟨h.below.setCell (by simp; omega) _, blk_set_ne h.r _ (by simp; omega) _, ?_, blk_set_ne h.z _ (by simp; omega) _, by rw [List.length_set]; exact h.len, d1, d2⟩
  rw [blk_set h.g, ints_put]

theorem sizes_cell {w : World} {Z : Nat} {T : TypeId} (h : w.heap[Z]? = some (.cells #[.int .i64 64, .int .i64 32, .int .i64 16, .int .i64 8, .int .i64 1] T (0, 0))) (z : Nat) (hz : z < 5) : w.cell? ⟨Z, z, none⟩ = some (.int .i64 (wSize z)) := by
  rw [blk_cell h]
  have h0 : z = 0 ∨ z = 1 ∨ z = 2 ∨ z = 3 ∨ z = 4 := by omega
  rcases h0 with rfl | rfl | rfl | rfl | rfl <;> rfl

def RWordsPost (w : World) (fs : List FField) (e : Ending) (w' : World) : Prop :=
  ∃ g, e = .returned (.tuple #[.slice (some ⟨g, 0, none⟩) fs.length fs.length, .int .i64 (wordsN fs), .int .i64 (wordsP fs).1]) ∧ w.heap.size ≤ g ∧ w'.heap[g]? = some (.cells ((wordsP fs).2.map (Value.int .i64)).toArray 3 (0, 0)) ∧ Below w.heap.size w w'

set_option maxHeartbeats 2000000 in
set_option maxRecDepth 100000 in
theorem refWords_calls (nm : ByteArray) (b o c : Nat) (fs : List FField) (hn : fs.length ≤ 16) (hok : ∀ f ∈ fs, f.ok) (w : World) (hb : b < w.heap.size) (hr : FieldsAt w b o fs) :
    Calls Try.prog 20 #[.agg #[.string nm, .slice (some ⟨b, o, none⟩) fs.length c]] w (RWordsPost w fs) := by
  obtain ⟨i0, hi, hz0, hz1, hz2⟩ := info_parts info_int
  go_enter Try.func20, Try.ntmps20
  go_wp2_with (first | (at_make; refine wpList_make_full _ rfl _ _ 37 rfl w.heap.size 3 i0 (.int .i64 0) 1 Try.underlying37 hi hz0 hz1 .i64 .i64 _ _ fs.length rfl rfl rfl rfl (by rw [hz2]; omega) (by unfold maxLen; omega) (by simp) ?_))
  intro w1 hown hgr
  go_wp2
  have hG := made_block hown
  rw [made_ints] at hG
  have lG := blk_lt hG
  have hG2 : w.heap.size < w.heap.size + 1 := by omega
  have hgs := hgr.size
  simp only [World.size_alloc] at hgs
  clear hown
  generalize w.heap.size + 1 = G at *
  have hI0 : RWordsInv w (w1.alloc (Obj.cells #[Value.int IntKind.i64 64, Value.int IntKind.i64 32, Value.int IntKind.i64 16, Value.int IntKind.i64 8, Value.int IntKind.i64 1] 3)) nm (.slice (some ⟨b, o, none⟩) fs.length c) fs.length G w1.heap.size (wOut fs 0).2 := by
    refine ⟨?_, ?_, blk_alloc hG _, blk_new _ _, by simp [wOut], hG2, lG⟩
    · exact (((Below.refl _ _).alloc (Nat.le_refl _) _).grown hgr (by simp) (by simp)).alloc (by omega) _
    · exact blk_alloc ((hgr.block _ (by simp) (by simp)).trans (blk_new _ _)) _
  generalize w1.heap.size = Z at *
  go_loopw [6, 9] (fun v6 v9 wr => ∃ z : Nat, z ≤ 5 ∧ v9 = .int .i64 z ∧ v6 = .int .i64 (wOut fs z).1 ∧ RWordsInv w wr nm (.slice (some ⟨b, o, none⟩) fs.length c) fs.length G Z (wOut fs z).2) (fun _ v9 _ => 5 - (intOf v9).toNat)
  case atStart => exact ⟨0, by omega, rfl, rfl, hI0⟩
  case round =>
    obtain ⟨z, hz, rfl, rfl, hI⟩ := hrel
    have hbd := wOut_bd fs z
    have hle := wOut_le fs hn z
    have cR : wr.cell? ⟨w.heap.size, 1, none⟩ = some (.slice (some ⟨b, o, none⟩) fs.length c) := by rw [blk_cell hI.r]; rfl
    by_cases hz5 : z < 5
    · have hzd : decide ((z : Int) < 5) = true := by simp; omega
      go_wp2_with fail
      obtain ⟨st, hst⟩ : ∃ st, st = wOut fs z := ⟨_, rfl⟩
      rw [← hst] at hI hbd hle
      rw [← hst]
      obtain ⟨size, hsz⟩ : ∃ s, s = wSize z := ⟨_, rfl⟩
      have hsb := wSizes_bd z
      rw [← hsz] at hsb
      have HST := Lib.hid hst
      have HSZ := Lib.hid hsz
      clear hst hsz cR hzd
      go_loopw [6, 10] (fun v6 v10 wr => ∃ k : Nat, k ≤ fs.length ∧ v10 = .int .i64 k ∧ v6 = .int .i64 (wIn fs size st k).1 ∧ RWordsInv w wr nm (.slice (some ⟨b, o, none⟩) fs.length c) fs.length G Z (wIn fs size st k).2) (fun _ v10 _ => fs.length - (intOf v10).toNat)
      case atStart => exact ⟨0, by omega, rfl, rfl, hI⟩
      case round =>
        obtain ⟨k, hk, rfl, rfl, hJ⟩ := hrel
        have hbk := wIn_bd fs size hsb.1 hsb.2 st k
        have cR : wr.cell? ⟨w.heap.size, 1, none⟩ = some (.slice (some ⟨b, o, none⟩) fs.length c) := by rw [blk_cell hJ.r]; rfl
        by_cases hkn : k < fs.length
        · obtain ⟨r0, r1, r2, r3, r4⟩ := hr.below hJ.below hb k hkn
          have hfo := hok _ (fget_mem fs k hkn)
          have cG : wr.cell? ⟨G, k, none⟩ = some (.int .i64 (wIn fs size st k).2[k]!) := by rw [blk_cell hJ.g, ints_get (by omega)]
          have fG : wr.frozen? ⟨G, k, none⟩ = false := blk_frozen hJ.g _
          have cZ : wr.cell? ⟨Z, z, none⟩ = some (.int .i64 size) := by rw [HSZ.out]; exact sizes_cell hJ.z z hz5
          have lR := blk_lt hJ.r
          have lG := blk_lt hJ.g
          have lZ := blk_lt hJ.z
          have lb : b < wr.heap.size := by have := hJ.below.size; omega
          have hkI : (k : Int) < (fs.length : Int) := by omega
          have hzI : (z : Int) < 5 := by omega
          have ho0 := hfo.1
          have ho1 := hfo.2
          clear hfo
          obtain ⟨kd, hkd⟩ : ∃ x, x = (fget fs k).kind := ⟨_, rfl⟩
          obtain ⟨ls, hls⟩ : ∃ x, x = (fget fs k).lists := ⟨_, rfl⟩
          obtain ⟨rf, hrf⟩ : ∃ x, x = (fget fs k).ref := ⟨_, rfl⟩
          rw [← hkd] at r1 ho0 ho1
          rw [← hls] at r3
          rw [← hrf] at r2
          have HKD := Lib.hid hkd
          have HLS := Lib.hid hls
          clear hkd hls hrf
          by_cases hnum : isNumB kd ls = true
          · have hct := fun W => refIsNum_calls kd rf ls ho0 ho1 W
            rw [hnum] at hct
            go_wp2_with fail
            (have hX := BelowOf.cell wr; refine wp_region_below_lit (by kernel_rfl) (by kernel_rfl) ?_; (repeat (go_big_quiet_step ((first | (go_at_call 46; exact quietB (hct _)) | (go_at_call 16; exact quietS (refBits_calls _ ho0 ho1 _)))))); refine wpQuiet_nil ?_; intro _ hw'; obtain ⟨⟨wB, hB⟩, hw''⟩ := hw'; subst hw''; clear hX; have hzB := hB.size; obtain ⟨hcB, hfB⟩ := bcell hB)
            go_wp2
            · go_roundw
              case rel =>
                have hs : wIn fs size st (k + 1) = ((wIn fs size st k).1 + size, (wIn fs size st k).2.set k (wIn fs size st k).1) := by
                  simp only [wIn, wStep]; rw [← HKD.out, ← HLS.out, if_pos ⟨hnum, by simpa using (by assumption : (kindBits kd == size) = true)⟩]
                refine ⟨k + 1, by omega, by go_num, by rw [hs], ?_⟩
                rw [hs]
                exact (hJ.frame hB).put k _
              case measure => simp [intOf]; omega
            · go_roundw
              case rel =>
                have hs : wIn fs size st (k + 1) = wIn fs size st k := by
                  simp only [wIn, wStep]; rw [← HKD.out, ← HLS.out, if_neg (fun h => by have := (by assumption : (kindBits kd == size) = false); simp [h.2] at this)]
                rw [← hs]
                exact ⟨k + 1, by omega, by go_num, rfl, by rw [hs]; exact hJ.frame hB⟩
              case measure => simp [intOf]; omega
          · have hnb : isNumB kd ls = false := by simpa using hnum
            have hct := fun W => refIsNum_calls kd rf ls ho0 ho1 W
            rw [hnb] at hct
            go_wp2_with fail
            (have hX := BelowOf.cell wr; refine wp_region_below_lit (by kernel_rfl) (by kernel_rfl) ?_; (repeat (go_big_quiet_step ((first | (go_at_call 46; exact quietB (hct _)))))); refine wpQuiet_nil ?_; intro _ hw'; obtain ⟨⟨wB, hB⟩, hw''⟩ := hw'; subst hw''; clear hX; have hzB := hB.size; obtain ⟨hcB, hfB⟩ := bcell hB)
            go_wp2
            go_roundw
            case rel =>
              have hs : wIn fs size st (k + 1) = wIn fs size st k := by
                simp only [wIn, wStep]; rw [← HKD.out, ← HLS.out, if_neg (fun h => absurd h.1 hnum)]
              rw [← hs]
              exact ⟨k + 1, by omega, by go_num, rfl, by rw [hs]; exact hJ.frame hB⟩
            case measure => simp [intOf]; omega
        · obtain rfl : k = fs.length := by omega
          have hs : wIn fs size st fs.length = wOut fs (z + 1) := by rw [HST.out, HSZ.out]; rfl
          go_wp2
          go_roundw
          case rel => exact ⟨z + 1, by omega, by go_num, by rw [hs], by rw [← hs]; exact hJ⟩
          case measure => simp [intOf]; omega
    · have hz5' := Lib.hid (show z = 5 by omega)
      have hzd : decide ((z : Int) < 5) = false := by simp; omega
      obtain ⟨st, hst⟩ : ∃ st, st = wOut fs z := ⟨_, rfl⟩
      rw [← hst] at hI hbd hle
      have hle5 : st.1 ≤ 5120 := by omega
      rw [← hst]
      have HST := Lib.hid hst
      clear hst
      go_wp2
      clear cR hzd
      go_loopw [7, 11] (fun v7 v11 wr => ∃ k : Nat, k ≤ fs.length ∧ v11 = .int .i64 k ∧ v7 = .int .i64 (pIn fs (0, st.2) k).1 ∧ RWordsInv w wr nm (.slice (some ⟨b, o, none⟩) fs.length c) fs.length G Z (pIn fs (0, st.2) k).2) (fun _ v11 _ => fs.length - (intOf v11).toNat)
      case atStart => exact ⟨0, by omega, rfl, rfl, hI⟩
      case round =>
        obtain ⟨k, hk, rfl, rfl, hJ⟩ := hrel
        have hbk := pIn_bd fs (0, st.2) k
        simp only [] at hbk
        have cR : wr.cell? ⟨w.heap.size, 1, none⟩ = some (.slice (some ⟨b, o, none⟩) fs.length c) := by rw [blk_cell hJ.r]; rfl
        by_cases hkn : k < fs.length
        · obtain ⟨r0, r1, r2, r3, r4⟩ := hr.below hJ.below hb k hkn
          have hfo := hok _ (fget_mem fs k hkn)
          have cG : wr.cell? ⟨G, k, none⟩ = some (.int .i64 (pIn fs (0, st.2) k).2[k]!) := by rw [blk_cell hJ.g, ints_get (by omega)]
          have fG : wr.frozen? ⟨G, k, none⟩ = false := blk_frozen hJ.g _
          have lG := blk_lt hJ.g
          have lR := blk_lt hJ.r
          have ho0 := hfo.1
          have ho1 := hfo.2
          clear hfo
          go_wp2_with (first | (go_at_call 46; refine (refIsNum_calls _ _ _ ho0 ho1 _).mono ?_; rintro e wB ⟨rfl, hB⟩; have hzB := hB.size; (try simp only [World.size_alloc, World.size_setCell, World.size_drew] at hzB); obtain ⟨hcB, hfB⟩ := bcell hB))
          · go_roundw
            case rel =>
              have hs : pIn fs (0, st.2) (k + 1) = ((pIn fs (0, st.2) k).1 + 1, (pIn fs (0, st.2) k).2.set k (pIn fs (0, st.2) k).1) := by
                simp only [pIn, pStep]; rw [if_neg (by simpa using (by assumption : (!isNumB (fget fs k).kind (fget fs k).lists) = true))]
              refine ⟨k + 1, by omega, by go_num, by rw [hs], ?_⟩
              rw [hs]
              exact (hJ.frame hB).put k _
            case measure => simp [intOf]; omega
          · go_roundw
            case rel =>
              have hs : pIn fs (0, st.2) (k + 1) = pIn fs (0, st.2) k := by
                simp only [pIn, pStep]; rw [if_pos (by simpa using (by assumption : (!isNumB (fget fs k).kind (fget fs k).lists) = false))]
              refine ⟨k + 1, by omega, by go_num, by rw [hs], ?_⟩
              rw [hs]
              exact hJ.frame hB
            case measure => simp [intOf]; omega
        · obtain rfl : k = fs.length := by omega
          go_wp2
          go_ret3
          refine ⟨G, by simp only [wordsN, wordsP]; rw [← hz5'.out, ← HST.out]; rfl, by omega, ?_, hJ.below⟩
          simp only [wordsP]
          rw [← hz5'.out, ← HST.out]
          exact hJ.g

end Go.Proofs.Ytlfpakopahmdiaa
