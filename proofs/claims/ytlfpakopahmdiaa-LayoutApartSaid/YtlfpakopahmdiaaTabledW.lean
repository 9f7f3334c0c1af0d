/-
  layout.Tabled walked.
-/
import Derived.Test.YtlfpakopahmdiaaTabledL
import Derived.Test.YtlfpakopahmdiaaWords
import Derived.Deep.RegionWith
namespace Go.Proofs.Ytlfpakopahmdiaa
open Go.RowKit
set_option linter.unusedVariables false
set_option linter.unusedSimpArgs false

theorem tsizes_ix0 (w : World) : (Instr.index 111 (.agg #[.int .i64 8, .int .i64 4, .int .i64 2, .int .i64 1]) (.int .i64 0)).run Try.prog w = .ok (.int .i64 8) w := by kernel_rfl
theorem tsizes_ix1 (w : World) : (Instr.index 111 (.agg #[.int .i64 8, .int .i64 4, .int .i64 2, .int .i64 1]) (.int .i64 1)).run Try.prog w = .ok (.int .i64 4) w := by kernel_rfl
theorem tsizes_ix2 (w : World) : (Instr.index 111 (.agg #[.int .i64 8, .int .i64 4, .int .i64 2, .int .i64 1]) (.int .i64 2)).run Try.prog w = .ok (.int .i64 2) w := by kernel_rfl
theorem tsizes_ix3 (w : World) : (Instr.index 111 (.agg #[.int .i64 8, .int .i64 4, .int .i64 2, .int .i64 1]) (.int .i64 3)).run Try.prog w = .ok (.int .i64 1) w := by kernel_rfl
theorem tsizes_ix (z : Nat) (h : z < 4) (w : World) : (Instr.index 111 (.agg #[.int .i64 8, .int .i64 4, .int .i64 2, .int .i64 1]) (.int .i64 (z : Int))).run Try.prog w = .ok (.int .i64 (tSize z)) w := by
  have h0 : z = 0 ∨ z = 1 ∨ z = 2 ∨ z = 3 := by omega
  rcases h0 with rfl | rfl | rfl | rfl
  · exact tsizes_ix0 w
  · exact tsizes_ix1 w
  · exact tsizes_ix2 w
  · exact tsizes_ix3 w

def TabPost (w : World) (fs : List FField) (th : List Bool) (e : Ending) (w' : World) : Prop :=
  ∃ g, e = .returned (.agg #[.slice (some ⟨g, 0, none⟩) fs.length fs.length, .int .i64 (tOut fs th 4).size, .int .i64 (tOut fs th 4).align]) ∧ w.heap.size ≤ g ∧ w'.heap[g]? = some (.cells ((tOut fs th 4).at_.map (Value.int .i64)).toArray 3 (0, 0)) ∧ Below w.heap.size w w'

theorem tStep_no (z : Int) (f : FField) (b : Bool) (i : Nat) (s : TabSt) (h : ¬ (b = true ∧ inlineOf f.kind f.lists = z)) : tStep z f b i s = s := by rw [tStep, if_neg h]
theorem tStep_yes (z : Int) (f : FField) (b : Bool) (i : Nat) (s : TabSt) (h : b = true ∧ inlineOf f.kind f.lists = z) : tStep z f b i s = ⟨roundUp s.size z + z, if s.align < z then z else s.align, s.at_.set i (roundUp s.size z)⟩ := by rw [tStep, if_pos h]

theorem bound_facts (s z : Int) (hz : z = 8 ∨ z = 4 ∨ z = 2 ∨ z = 1) (h0 : 0 ≤ s) (h1 : s ≤ 2000) :
    (z == 0) = false ∧ IntKind.i64.wrap (s + z) = s + z ∧ IntKind.i64.wrap (s + z - 1) = s + z - 1 ∧ Int.tdiv (s + z - 1) z = (s + z - 1) / z ∧ IntKind.i64.wrap ((s + z - 1) / z) = (s + z - 1) / z ∧ IntKind.i64.wrap ((s + z - 1) / z * z) = (s + z - 1) / z * z ∧
    IntKind.i64.wrap ((s + z - 1) / z * z + z) = (s + z - 1) / z * z + z ∧ 0 ≤ (s + z - 1) / z * z ∧ (s + z - 1) / z * z ≤ 2010 := by
  have e : Int.tdiv (s + z - 1) z = (s + z - 1) / z := Int.tdiv_eq_ediv_of_nonneg (by rcases hz with rfl | rfl | rfl | rfl <;> omega)
  refine ⟨by rcases hz with rfl | rfl | rfl | rfl <;> rfl, ?_, ?_, e, ?_, ?_, ?_, ?_, ?_⟩
  · exact IntWalk.i64_in _ (by rcases hz with rfl | rfl | rfl | rfl <;> omega)
  · exact IntWalk.i64_in _ (by rcases hz with rfl | rfl | rfl | rfl <;> omega)
  · exact IntWalk.i64_in _ (by rcases hz with rfl | rfl | rfl | rfl <;> omega)
  · exact IntWalk.i64_in _ (by rcases hz with rfl | rfl | rfl | rfl <;> omega)
  · exact IntWalk.i64_in _ (by rcases hz with rfl | rfl | rfl | rfl <;> omega)
  · rcases hz with rfl | rfl | rfl | rfl <;> omega
  · rcases hz with rfl | rfl | rfl | rfl <;> omega

set_option maxHeartbeats 1000000 in
set_option maxRecDepth 100000 in
theorem layoutTabled_calls (nm : ByteArray) (b o c : Nat) (fs : List FField) (hn : fs.length ≤ 16) (T : Option Addr) (ct : Nat) (th : List Bool) (w : World) (hb : b < w.heap.size) (hr : FieldsAt w b o fs) (hth : BoolsAt w T th) (hct : th.length ≤ 1000) :
    Calls Try.prog 30 #[.agg #[.string nm, .slice (some ⟨b, o, none⟩) fs.length c], .slice T th.length ct] w (TabPost w fs th) := by
  obtain ⟨i0, hi, hz0, hz1, hz2⟩ := info_parts info_int
  have HTH := Lib.hid hth
  clear hth
  go_enter Try.func30, Try.ntmps30
  go_wp2_with (first | (at_make; refine wpList_make_full _ rfl _ _ 37 rfl w.heap.size 3 i0 (.int .i64 0) 1 Try.underlying37 hi hz0 hz1 .i64 .i64 _ _ fs.length rfl rfl rfl rfl (by rw [hz2]; omega) (by unfold maxLen; omega) (by simp; omega) ?_))
  intro w1 hown hgr
  go_wp2
  have hG := made_block hown
  rw [made_ints] at hG
  have lG := blk_lt hG
  have hG2 : w.heap.size + 1 < w.heap.size + 1 + 1 := by omega
  clear hown
  generalize w.heap.size + 1 + 1 = G at *
  have hgs := hgr.size
  simp only [World.size_alloc] at hgs
  have hO : TabInv w (w1.alloc (Obj.cells #[Value.slice (some ⟨G, 0, none⟩) fs.length fs.length, Value.int IntKind.i64 4, Value.int IntKind.i64 4] 67)) nm (.slice (some ⟨b, o, none⟩) fs.length c) fs.length w1.heap.size G (tOut fs th 0) := by
    refine ⟨?_, ?_, ?_, ?_, blk_alloc hG _, hG2, lG⟩
    · exact ((((Below.refl _ _).alloc (Nat.le_refl _) _).alloc (by simp) _).grown hgr (by simp; omega) (by simp)).alloc (by omega) _
    · exact blk_alloc ((hgr.block _ (by simp; omega) (by simp)).trans (blk_alloc (blk_new _ _) _)) _
    · refine blk_alloc ((hgr.block _ (by simp) (by simp)).trans ?_) _
      have := blk_new (w.alloc (Obj.cells #[Value.string nm, Value.slice (some ⟨b, o, none⟩) fs.length c] 36)) (Obj.cells #[Value.slice none 0 0, Value.int IntKind.i64 0, Value.int IntKind.i64 0] 67)
      simpa using this
    · exact blk_new _ _
  obtain ⟨X, hX⟩ : ∃ x, x = w1.heap.size := ⟨_, rfl⟩
  rw [← hX] at hO ⊢
  clear hX hG hgr
  go_loopw [16] (fun v16 wr => ∃ z : Nat, z ≤ 4 ∧ v16 = .int .i64 z ∧ TabInv w wr nm (.slice (some ⟨b, o, none⟩) fs.length c) fs.length X G (tOut fs th z)) (fun v16 _ => 4 - (intOf v16).toNat)
  case atStart => exact ⟨0, by omega, rfl, hO⟩
  case round =>
    obtain ⟨z, hz, rfl, hI⟩ := hrel
    have hbd := tOut_bd fs th hn z
    have cR : wr.cell? ⟨w.heap.size, 1, none⟩ = some (.slice (some ⟨b, o, none⟩) fs.length c) := by rw [blk_cell hI.r]; rfl
    by_cases hz4 : z < 4
    · have hix := fun W => tsizes_ix z hz4 W
      have hzd : decide ((z : Int) < 4) = true := by simp; omega
      go_wp2_with fail
      obtain ⟨st, hst⟩ : ∃ st, st = tOut fs th z := ⟨_, rfl⟩
      rw [← hst] at hI hbd
      obtain ⟨size, hsz⟩ : ∃ s, s = tSize z := ⟨_, rfl⟩
      have hsb := tSize_or z
      rw [← hsz] at hsb
      rw [← hsz]
      have HST := Lib.hid hst
      have HSZ := Lib.hid hsz
      have HSB := Lib.hid hsb
      clear hst hsz hix cR hzd hsb
      go_loopw [22] (fun v22 wr => ∃ k : Nat, k ≤ fs.length ∧ v22 = .int .i64 k ∧ TabInv w wr nm (.slice (some ⟨b, o, none⟩) fs.length c) fs.length X G (tIn fs th size st k)) (fun v22 _ => fs.length - (intOf v22).toNat)
      case atStart => exact ⟨0, by omega, rfl, hI⟩
      case round =>
        obtain ⟨k, hk, rfl, hJ⟩ := hrel
        have hbk := tIn_bd fs th size HSB.out st k
        by_cases hkn : k < fs.length
        · obtain ⟨r0, r1, r2, r3, r4⟩ := hr.below hJ.below hb k hkn
          have hs : tIn fs th size st (k + 1) = tStep size (fget fs k) (thereB th k) k (tIn fs th size st k) := rfl
          obtain ⟨s, hse⟩ : ∃ s, s = tIn fs th size st k := ⟨_, rfl⟩
          rw [← hse] at hs hJ hbk
          obtain ⟨f, hf⟩ : ∃ f, f = fget fs k := ⟨_, rfl⟩
          rw [← hf] at r0 r1 r2 r3 r4 hs
          have hs0 : 0 ≤ s.size := by omega
          have hs1 : s.size ≤ 2000 := by omega
          have hal : s.at_.length = fs.length := by omega
          have HS := Lib.hid hs
          have HAL := Lib.hid hal
          clear hs hse hf hal hbk hbd
          have x0 : wr.cell? ⟨X, 0, none⟩ = some (.slice (some ⟨G, 0, none⟩) fs.length fs.length) := by rw [blk_cell hJ.x]; rfl
          have x1 : wr.cell? ⟨X, 1, none⟩ = some (.int .i64 s.size) := by rw [blk_cell hJ.x]; rfl
          have x2 : wr.cell? ⟨X, 2, none⟩ = some (.int .i64 s.align) := by rw [blk_cell hJ.x]; rfl
          have hkI : (k : Int) < (fs.length : Int) := by omega
          have lX := blk_lt hJ.x
          have lGr := blk_lt hJ.g
          have hbw := hJ.below
          have hlb : b < wr.heap.size := by have := hJ.below.size; omega
          by_cases hkt : k < th.length
          · obtain ⟨bt, ot, rfl, hbt, hct'⟩ := HTH.out (by omega)
            have ct0 : wr.cell? ⟨bt, ot + k, none⟩ = some (.bool (bget th k)) := by rw [hbw.cell (p := ⟨bt, ot + k, none⟩) hbt]; exact hct' k hkt
            have hth' : thereB th k = bget th k := by rw [thereB, decide_eq_true hkt]; rfl
            have HT' := Lib.hid hth'
            have lbt : bt < wr.heap.size := by have := hJ.below.size; omega
            have hktI : (k : Int) < (th.length : Int) := by omega
            have hge : decide ((th.length : Int) ≤ (k : Int)) = false := decide_eq_false (by omega)
            clear hth' hct'
            rcases Bool.eq_false_or_eq_true (bget th k) with hbb | hbb
            · rw [hbb] at ct0
              by_cases hin : inlineOf f.kind f.lists = size
              · have hne : (inlineOf f.kind f.lists == size) = true := by rw [beq_iff_eq]; exact hin
                have hne2 : (inlineOf f.kind f.lists != size) = false := by rw [bne, hne]; rfl
                have hcal := fun W => layoutInline_calls f.name f.kind f.ref f.lists f.df W
                rw [hin] at hcal
                obtain ⟨e1, e2, e3, e4, e5, e6, e7, e8, e9⟩ := bound_facts s.size size HSB.out hs0 hs1
                have hru : roundUp s.size size = (s.size + size - 1) / size * size := rfl
                have gk : wr.cell? ⟨G, k, none⟩ = some (.int .i64 s.at_[k]!) := by rw [blk_cell hJ.g, ints_get (by rw [HAL.out]; exact hkn)]
                have gf : wr.frozen? ⟨G, k, none⟩ = false := blk_frozen hJ.g _
                have xf : ∀ j, wr.frozen? ⟨X, j, none⟩ = false := fun j => blk_frozen hJ.x j
                have xf1 := xf 1
                have xf2 := xf 2
                have nGX : ¬ G = X := by have := hJ.d2; omega
                have nXG : ¬ X = G := by have := hJ.d2; omega
                have HRU := Lib.hid hru
                have HIN := Lib.hid hin
                clear hru hin xf
                have hz0' : ¬ size = 0 := by have := HSB.out; omega
                have hgek : ¬ th.length ≤ k := by omega
                go_wp2_with fail
                (go_at_call 28; refine (hcal _).mono ?_; rintro e wB ⟨rfl, hB⟩; have hzB := hB.size; (try simp only [World.size_alloc, World.size_setCell, World.size_drew] at hzB); obtain ⟨hcB, hfB⟩ := bcell hB)
                have hJ1 := hJ.frame ((below1 _ _).trans (hB.mono (by simp)))
                have lX1 := blk_lt hJ1.x
                have y0 : wB.cell? ⟨X, 0, none⟩ = some (.slice (some ⟨G, 0, none⟩) fs.length fs.length) := by rw [blk_cell hJ1.x]; rfl
                have y1 : wB.cell? ⟨X, 1, none⟩ = some (.int .i64 s.size) := by rw [blk_cell hJ1.x]; rfl
                have y2 : wB.cell? ⟨X, 2, none⟩ = some (.int .i64 s.align) := by rw [blk_cell hJ1.x]; rfl
                have yf1 : wB.frozen? ⟨X, 1, none⟩ = false := blk_frozen hJ1.x _
                have yf2 : wB.frozen? ⟨X, 2, none⟩ = false := blk_frozen hJ1.x _
                have yk : wB.cell? ⟨G, k, none⟩ = some (.int .i64 s.at_[k]!) := by rw [blk_cell hJ1.g, ints_get (by rw [HAL.out]; exact hkn)]
                have yf : wB.frozen? ⟨G, k, none⟩ = false := blk_frozen hJ1.g _
                clear hcB hfB x0 x1 x2 gk gf xf1 xf2 hcal r0 r1 r2 r3 r4 ct0
                go_wp2_with fail
                go_roundw
                case rel =>
                  refine ⟨k + 1, by omega, by go_num, ?_⟩
                  rw [HS.out, tStep_yes _ _ _ _ _ ⟨by rw [HT'.out, hbb], HIN.out⟩, HRU.out]
                  have hfin := (((hJ1.sz ((s.size + size - 1) / size * size)).put k ((s.size + size - 1) / size * size)).sz ((s.size + size - 1) / size * size + size)).al (if s.align < size then size else s.align)
                  exact hfin
                case measure => simp [intOf]; omega
              · have hne : (inlineOf f.kind f.lists == size) = false := by rw [beq_eq_false_iff_ne]; exact hin
                have hne2 : (inlineOf f.kind f.lists != size) = true := by rw [bne, hne]; rfl
                have HIN := Lib.hid hin
                clear hin
                go_wp2_with (first | (go_at_call 28; refine (layoutInline_calls _ _ _ _ _ _).mono ?_; rintro e wB ⟨rfl, hB⟩; have hzB := hB.size; (try simp only [World.size_alloc, World.size_setCell, World.size_drew] at hzB); obtain ⟨hcB, hfB⟩ := bcell hB))
                go_roundw
                case rel => exact ⟨k + 1, by omega, by go_num, by rw [HS.out, tStep_no _ _ _ _ _ (fun h => HIN.out h.2)]; exact hJ.frame ((below1 _ _).trans (hB.mono (by simp)))⟩
                case measure => simp [intOf]; omega
            · rw [hbb] at ct0
              go_wp2
              go_roundw
              case rel => exact ⟨k + 1, by omega, by go_num, by rw [HS.out, tStep_no _ _ _ _ _ (fun h => by rw [HT'.out, hbb] at h; cases h.1)]; exact hJ.frame (below1 _ _)⟩
              case measure => simp [intOf]; omega
          · have hge : decide ((th.length : Int) ≤ (k : Int)) = true := decide_eq_true (by omega)
            go_wp2
            go_roundw
            case rel => exact ⟨k + 1, by omega, by go_num, by rw [HS.out, tStep_no _ _ _ _ _ (fun h => by rw [thereB, decide_eq_false hkt] at h; cases h.1)]; exact hJ.frame (below1 _ _)⟩
            case measure => simp [intOf]; omega
        · obtain rfl : k = fs.length := by omega
          have hs : tIn fs th size st fs.length = tOut fs th (z + 1) := by rw [HST.out, HSZ.out]; rfl
          go_wp2
          go_roundw
          case rel => exact ⟨z + 1, by omega, by go_num, by rw [← hs]; exact hJ⟩
          case measure => simp [intOf]; omega
    · have hz4' := Lib.hid (show z = 4 by omega)
      have hzd : decide ((z : Int) < 4) = false := by simp; omega
      obtain ⟨st, hst⟩ : ∃ st, st = tOut fs th z := ⟨_, rfl⟩
      rw [← hst] at hI hbd
      have HST := Lib.hid hst
      have d1 := hI.d1
      have d2 := hI.d2
      clear hst cR
      have x0 : wr.cell? ⟨X, 0, none⟩ = some (.slice (some ⟨G, 0, none⟩) fs.length fs.length) := by rw [blk_cell hI.x]; rfl
      have x1 : wr.cell? ⟨X, 1, none⟩ = some (.int .i64 st.size) := by rw [blk_cell hI.x]; rfl
      have x2 : wr.cell? ⟨X, 2, none⟩ = some (.int .i64 st.align) := by rw [blk_cell hI.x]; rfl
      have s0 : wr.cell? ⟨w.heap.size + 1, 0, none⟩ = some (.slice none 0 0) := by rw [blk_cell hI.res]; rfl
      have s1 : wr.cell? ⟨w.heap.size + 1, 1, none⟩ = some (.int .i64 0) := by rw [blk_cell hI.res]; rfl
      have s2 : wr.cell? ⟨w.heap.size + 1, 2, none⟩ = some (.int .i64 0) := by rw [blk_cell hI.res]; rfl
      have fs0 : ∀ j, wr.frozen? ⟨w.heap.size + 1, j, none⟩ = false := fun j => blk_frozen hI.res _
      go_wp2
      refine bodyPost_ret (v := .agg #[.slice (some ⟨G, 0, none⟩) fs.length fs.length, .int .i64 st.size, .int .i64 st.align]) (by simp [results, Try.results30, go_sem, s0, s1, s2, fs0]) rfl ?_
      refine ⟨G, by rw [← hz4'.out, ← HST.out], by omega, ?_, ?_⟩
      · rw [← hz4'.out, ← HST.out]
        exact blk_set_ne (blk_set_ne (blk_set_ne hI.g _ (by simp; omega) _) _ (by simp; omega) _) _ (by simp; omega) _
      · exact ((hI.below.setCell (by simp) _).setCell (by simp) _).setCell (by simp) _

end Go.Proofs.Ytlfpakopahmdiaa
