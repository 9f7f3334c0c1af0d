/-
  The document's Tabled.
-/
import Derived.Test.YtlfpakopahmdiaaTabledW
namespace Go.Proofs.Ytlfpakopahmdiaa
open Go.RowKit
set_option linter.unusedVariables false
set_option linter.unusedSimpArgs false

/-- R: the argument's block, G: the places' -/
structure RTabInv (w wr : World) (nm : ByteArray) (sl : Value) (n G : Nat) (ats : List Int) : Prop where
  below : Below w.heap.size w wr
  r : wr.heap[w.heap.size]? = some (.cells #[.string nm, sl] 36 (0, 0))
  g : wr.heap[G]? = some (.cells (ats.map (Value.int .i64)).toArray 3 (0, 0))
  d1 : w.heap.size < G

theorem RTabInv.frame {w wr wB : World} {nm : ByteArray} {sl : Value} {n G : Nat} {ats : List Int} (h : RTabInv w wr nm sl n G ats) (hb : Below wr.heap.size wr wB) : RTabInv w wB nm sl n G ats :=
  ⟨h.below.trans (hb.mono h.below.size), blk_below h.r hb (blk_lt h.r), blk_below h.g hb (blk_lt h.g), h.d1⟩
theorem RTabInv.put {w wr : World} {nm : ByteArray} {sl : Value} {n G : Nat} {ats : List Int} (h : RTabInv w wr nm sl n G ats) (k : Nat) (v : Int) : RTabInv w (wr.setCell ⟨G, k, none⟩ (.int .i64 v)) nm sl n G (ats.set k v) := by
  have d1 := h.d1
  refine ⟨h.below.setCell (by simp; omega) _, blk_set_ne h.r _ (by simp; omega) _, ?_, d1⟩
  rw [blk_set h.g, ints_put]

def tz (z : Nat) : Int := if z < 4 then tSize z else 0
theorem tz_half (z : Nat) (h : z < 4) : tz (z + 1) = tSize z / 2 := by
  have h0 : z = 0 ∨ z = 1 ∨ z = 2 ∨ z = 3 := by omega
  rcases h0 with rfl | rfl | rfl | rfl <;> rfl

def RTabPost (w : World) (fs : List FField) (th : List Bool) (e : Ending) (w' : World) : Prop :=
  ∃ g, e = .returned (.tuple #[.slice (some ⟨g, 0, none⟩) fs.length fs.length, .int .i64 (tOut fs th 4).size, .int .i64 (tOut fs th 4).align]) ∧ w.heap.size ≤ g ∧ w'.heap[g]? = some (.cells ((tOut fs th 4).at_.map (Value.int .i64)).toArray 3 (0, 0)) ∧ Below w.heap.size w w'

theorem rem_fact (y z : Int) (h0 : 0 ≤ y) : Int.tmod y z = y % z := Int.tmod_eq_emod_of_nonneg h0
theorem up_step (x y z : Int) (hz : z = 8 ∨ z = 4 ∨ z = 2 ∨ z = 1) (h1 : y ≤ roundUp x z) (h2 : ¬ y % z = 0) : y + 1 ≤ roundUp x z := by
  have h3 := roundUp_bd x z hz
  rcases Int.lt_or_eq_of_le h1 with h | h
  · omega
  · rw [h] at h2; exact absurd h3.2.2 h2

set_option maxHeartbeats 1000000 in
set_option maxRecDepth 100000 in
theorem refTabled_calls (nm : ByteArray) (b o c : Nat) (fs : List FField) (hn : fs.length ≤ 16) (hok : ∀ f ∈ fs, f.ok) (T : Option Addr) (ct : Nat) (th : List Bool) (w : World) (hb : b < w.heap.size) (hr : FieldsAt w b o fs) (hth : BoolsAt w T th) (hct : th.length ≤ 1000) :
    Calls Try.prog 31 #[.agg #[.string nm, .slice (some ⟨b, o, none⟩) fs.length c], .slice T th.length ct] w (RTabPost w fs th) := by
  obtain ⟨i0, hi, hz0, hz1, hz2⟩ := info_parts info_int
  have HTH := Lib.hid hth
  clear hth
  go_enter Try.func31, Try.ntmps31
  go_wp2_with (first | (at_make; refine wpList_make_full _ rfl _ _ 37 rfl w.heap.size 3 i0 (.int .i64 0) 1 Try.underlying37 hi hz0 hz1 .i64 .i64 _ _ fs.length rfl rfl rfl rfl (by rw [hz2]; omega) (by unfold maxLen; omega) (by simp) ?_))
  intro w1 hown hgr
  go_wp2
  have hG := made_block hown
  rw [made_ints] at hG
  have lG := blk_lt hG
  have hG2 : w.heap.size < w.heap.size + 1 := by omega
  have hgs := hgr.size
  simp only [World.size_alloc] at hgs
  clear hown
  generalize w.heap.size + 1 = G at *
  have hI0 : RTabInv w w1 nm (.slice (some ⟨b, o, none⟩) fs.length c) fs.length G (tOut fs th 0).at_ := by
    refine ⟨?_, ?_, hG, hG2⟩
    · exact ((Below.refl _ _).alloc (Nat.le_refl _) _).grown hgr (by simp) (by simp)
    · exact (hgr.block _ (by simp) (by simp)).trans (blk_new _ _)
  clear hG hgr
  go_loopw [8, 9, 10] (fun v8 v9 v10 wr => ∃ z : Nat, z ≤ 4 ∧ v10 = .int .i64 (tz z) ∧ v8 = .int .i64 (tOut fs th z).size ∧ v9 = .int .i64 (tOut fs th z).align ∧ RTabInv w wr nm (.slice (some ⟨b, o, none⟩) fs.length c) fs.length G (tOut fs th z).at_) (fun _ _ v10 _ => (intOf v10).toNat)
  case atStart => exact ⟨0, by omega, rfl, rfl, rfl, hI0⟩
  case round =>
    obtain ⟨z, hz, rfl, rfl, rfl, hI⟩ := hrel
    have hbd := tOut_bd fs th hn z
    have cR : wr.cell? ⟨w.heap.size, 1, none⟩ = some (.slice (some ⟨b, o, none⟩) fs.length c) := by rw [blk_cell hI.r]; rfl
    by_cases hz4 : z < 4
    · have htz : tz z = tSize z := by rw [tz, if_pos hz4]
      rw [htz]
      obtain ⟨st, hst⟩ : ∃ st, st = tOut fs th z := ⟨_, rfl⟩
      rw [← hst] at hI hbd ⊢
      obtain ⟨size, hsz⟩ : ∃ s, s = tSize z := ⟨_, rfl⟩
      have hsb := tSize_or z
      rw [← hsz] at hsb htz ⊢
      have hsz1 : 0 < size := by omega
      have hsz8 : size ≤ 8 := by omega
      have HST := Lib.hid hst
      have HSZ := Lib.hid hsz
      have HSB := Lib.hid hsb
      have HTZ := Lib.hid htz
      have hzd : decide (0 < size) = true := decide_eq_true hsz1
      clear hst hsz hsb htz
      go_wp2_with fail
      clear hzd cR
      go_loopw [8, 9, 11] (fun v8 v9 v11 wr => ∃ k : Nat, k ≤ fs.length ∧ v11 = .int .i64 k ∧ v8 = .int .i64 (tIn fs th size st k).size ∧ v9 = .int .i64 (tIn fs th size st k).align ∧ RTabInv w wr nm (.slice (some ⟨b, o, none⟩) fs.length c) fs.length G (tIn fs th size st k).at_) (fun _ _ v11 _ => fs.length - (intOf v11).toNat)
      case atStart => exact ⟨0, by omega, rfl, rfl, rfl, hI⟩
      case round =>
        obtain ⟨k, hk, rfl, rfl, rfl, hJ⟩ := hrel
        have hbk := tIn_bd fs th size HSB.out st k
        have cR : wr.cell? ⟨w.heap.size, 1, none⟩ = some (.slice (some ⟨b, o, none⟩) fs.length c) := by rw [blk_cell hJ.r]; rfl
        by_cases hkn : k < fs.length
        · obtain ⟨r0, r1, r2, r3, r4⟩ := hr.below hJ.below hb k hkn
          have hs : tIn fs th size st (k + 1) = tStep size (fget fs k) (thereB th k) k (tIn fs th size st k) := rfl
          have hfo := hok _ (fget_mem fs k hkn)
          obtain ⟨s, hse⟩ : ∃ s, s = tIn fs th size st k := ⟨_, rfl⟩
          rw [← hse] at hs hJ hbk ⊢
          obtain ⟨f, hf⟩ : ∃ f, f = fget fs k := ⟨_, rfl⟩
          rw [← hf] at r0 r1 r2 r3 r4 hs hfo
          have ho0 := hfo.1
          have ho1 := hfo.2
          have hs0 : 0 ≤ s.size := by omega
          have hs1 : s.size ≤ 2000 := by omega
          have hal : s.at_.length = fs.length := by omega
          have HS := Lib.hid hs
          have HAL := Lib.hid hal
          clear hs hse hf hal hbk hbd hfo
          have hkI : (k : Int) < (fs.length : Int) := by omega
          have lGr := blk_lt hJ.g
          have lR := blk_lt hJ.r
          have hlb : b < wr.heap.size := by have := hJ.below.size; omega
          by_cases hkt : k < th.length
          · obtain ⟨bt, ot, rfl, hbt, hct'⟩ := HTH.out (by omega)
            have ct0 : wr.cell? ⟨bt, ot + k, none⟩ = some (.bool (bget th k)) := by rw [hJ.below.cell (p := ⟨bt, ot + k, none⟩) hbt]; exact hct' k hkt
            have hth' : thereB th k = bget th k := by rw [thereB, decide_eq_true hkt]; rfl
            have HT' := Lib.hid hth'
            have lbt : bt < wr.heap.size := by have := hJ.below.size; omega
            have hktI : (k : Int) < (th.length : Int) := by omega
            have hge : decide ((k : Int) < (th.length : Int)) = true := decide_eq_true (by omega)
            clear hth' hct'
            rcases Bool.eq_false_or_eq_true (bget th k) with hbb | hbb
            · rw [hbb] at ct0
              by_cases hin : inlineOf f.kind f.lists = size
              · have hcal := fun W => refInline_calls f.name f.kind f.ref f.lists f.df ho0 ho1 W
                rw [hin] at hcal
                have HIN := Lib.hid hin
                have hbeq : (size == size) = true := beq_self_eq_true _
                clear hin
                go_wp2_with fail
                (go_at_call 29; refine (hcal _).mono ?_; rintro e wB ⟨rfl, hB⟩; have hzB := hB.size; (try simp only [World.size_alloc, World.size_setCell, World.size_drew] at hzB); obtain ⟨hcB, hfB⟩ := bcell hB)
                have hJ1 := hJ.frame hB
                clear hcB hfB hcal r0 r1 r2 r3 r4 ct0 cR
                have hru := roundUp_bd s.size size HSB.out
                have hru0 := hru.1
                have hru1 := hru.2.1
                have HRU := Lib.hid hru.2.2
                obtain ⟨ru, hrue⟩ : ∃ x, x = roundUp s.size size := ⟨_, rfl⟩
                rw [← hrue] at hru0 hru1 HRU
                have HRUE := Lib.hid hrue
                clear hru hrue
                have hz0' : (size == 0) = false := by rw [beq_eq_false_iff_ne]; omega
                go_wp2_with fail
                obtain ⟨wo, hwo⟩ : ∃ wo : World, wo = wB := ⟨_, rfl⟩
                subst hwo
                go_loop [8] (fun v8 => ∃ y : Int, v8 = .int .i64 y ∧ s.size ≤ y ∧ y ≤ ru) (fun v8 => (ru - intOf v8).toNat)
                case atStart => exact ⟨_, rfl, Int.le_refl _, hru0⟩
                case round =>
                  obtain ⟨y, rfl, hy0, hy1⟩ := hrel
                  have hmod := rem_fact y size (by omega)
                  by_cases hym : y % size = 0
                  · have hyr : y = ru := by rw [HRUE.out]; exact roundUp_first _ _ _ HSB.out hy0 (by rw [← HRUE.out]; exact hy1) hym
                    have hq : (y % size != 0) = false := by rw [hym]; rfl
                    have hq2 : (y % size == 0) = true := by rw [hym]; rfl
                    have yk : wo.cell? ⟨G, k, none⟩ = some (.int .i64 s.at_[k]!) := by rw [blk_cell hJ1.g, ints_get (by rw [HAL.out]; exact hkn)]
                    have yf : wo.frozen? ⟨G, k, none⟩ = false := blk_frozen hJ1.g _
                    have HYM := Lib.hid hym
                    have HYR := Lib.hid hyr
                    clear hym hyr hmod
                    have hmod : Int.tmod y size = 0 := by rw [rem_fact y size (by omega)]; exact HYM.out
                    go_wp2_with fail
                    · have hstep : tIn fs th size st (k + 1) = ⟨y + size, size, s.at_.set k y⟩ := by
                        rw [HS.out, tStep_yes _ _ _ _ _ ⟨by rw [HT'.out, hbb], HIN.out⟩, ← HRUE.out, ← HYR.out, if_pos (by assumption)]
                      go_roundw
                      case rel => exact ⟨k + 1, by omega, by go_num, by rw [hstep], by rw [hstep], by rw [hstep]; exact hJ1.put k y⟩
                      case measure => simp [intOf]; omega
                    · have hle : ¬ s.align < size := by have : size ≤ s.align := by assumption
                                                        omega
                      have hstep : tIn fs th size st (k + 1) = ⟨y + size, s.align, s.at_.set k y⟩ := by
                        rw [HS.out, tStep_yes _ _ _ _ _ ⟨by rw [HT'.out, hbb], HIN.out⟩, ← HRUE.out, ← HYR.out, if_neg hle]
                      go_roundw
                      case rel => exact ⟨k + 1, by omega, by go_num, by rw [hstep], by rw [hstep], by rw [hstep]; exact hJ1.put k y⟩
                      case measure => simp [intOf]; omega
                  · have hq : (y % size != 0) = true := by simp [bne, hym]
                    have hq2 : (y % size == 0) = false := by rw [beq_eq_false_iff_ne]; exact hym
                    have hup : y + 1 ≤ ru := by rw [HRUE.out]; exact up_step _ _ _ HSB.out (by rw [← HRUE.out]; exact hy1) hym
                    have HYM := Lib.hid hym
                    clear hym
                    go_wp2_with fail
                    go_round
                    case rel => exact ⟨y + 1, rfl, by omega, hup⟩
                    case measure => simp [intOf]; omega
              · have hne : (inlineOf f.kind f.lists == size) = false := by rw [beq_eq_false_iff_ne]; exact hin
                have HIN := Lib.hid hin
                clear hin
                go_wp2_with (first | (go_at_call 29; refine (refInline_calls _ _ _ _ _ ho0 ho1 _).mono ?_; rintro e wB ⟨rfl, hB⟩; have hzB := hB.size; (try simp only [World.size_alloc, World.size_setCell, World.size_drew] at hzB); obtain ⟨hcB, hfB⟩ := bcell hB))
                go_roundw
                case rel => exact ⟨k + 1, by omega, by go_num, by rw [HS.out, tStep_no _ _ _ _ _ (fun h => HIN.out h.2)], by rw [HS.out, tStep_no _ _ _ _ _ (fun h => HIN.out h.2)], by rw [HS.out, tStep_no _ _ _ _ _ (fun h => HIN.out h.2)]; exact hJ.frame hB⟩
                case measure => simp [intOf]; omega
            · rw [hbb] at ct0
              go_wp2
              go_roundw
              case rel => exact ⟨k + 1, by omega, by go_num, by rw [HS.out, tStep_no _ _ _ _ _ (fun h => by rw [HT'.out, hbb] at h; cases h.1)], by rw [HS.out, tStep_no _ _ _ _ _ (fun h => by rw [HT'.out, hbb] at h; cases h.1)], by rw [HS.out, tStep_no _ _ _ _ _ (fun h => by rw [HT'.out, hbb] at h; cases h.1)]; exact hJ⟩
              case measure => simp [intOf]; omega
          · have hge : decide ((k : Int) < (th.length : Int)) = false := decide_eq_false (by omega)
            go_wp2
            go_roundw
            case rel => exact ⟨k + 1, by omega, by go_num, by rw [HS.out, tStep_no _ _ _ _ _ (fun h => by rw [thereB, decide_eq_false hkt] at h; cases h.1)], by rw [HS.out, tStep_no _ _ _ _ _ (fun h => by rw [thereB, decide_eq_false hkt] at h; cases h.1)], by rw [HS.out, tStep_no _ _ _ _ _ (fun h => by rw [thereB, decide_eq_false hkt] at h; cases h.1)]; exact hJ⟩
            case measure => simp [intOf]; omega
        · obtain rfl : k = fs.length := by omega
          have hs : tIn fs th size st fs.length = tOut fs th (z + 1) := by rw [HST.out, HSZ.out]; rfl
          have hdv : Int.tdiv size 2 = size / 2 := Int.tdiv_eq_ediv_of_nonneg (by omega)
          go_wp2
          go_roundw
          case rel => exact ⟨z + 1, by omega, by rw [tz_half z hz4, ← HSZ.out], by rw [← hs], by rw [← hs], by rw [← hs]; exact hJ⟩
          case measure => simp [intOf]; omega
    · have hz4' := Lib.hid (show z = 4 by omega)
      have htz : tz z = 0 := by rw [tz, if_neg hz4]
      rw [htz]
      obtain ⟨st, hst⟩ : ∃ st, st = tOut fs th z := ⟨_, rfl⟩
      rw [← hst] at hI hbd ⊢
      have HST := Lib.hid hst
      have d1 := hI.d1
      clear hst cR htz
      go_wp2
      go_ret3
      have hT4 : tOut fs th 4 = st := by rw [HST.out, hz4'.out]
      exact ⟨G, by rw [hT4]; rfl, by omega, by rw [hT4]; exact hI.g, hI.below⟩

end Go.Proofs.Ytlfpakopahmdiaa
