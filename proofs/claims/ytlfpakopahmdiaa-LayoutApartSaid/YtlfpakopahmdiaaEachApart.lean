/-
  transomlaw06.each for LayoutApart.
-/
import Derived.Test.YtlfpakopahmdiaaEach
namespace Go.Proofs.Ytlfpakopahmdiaa
open Go.RowKit
set_option linter.unusedVariables false
set_option linter.unusedSimpArgs false

set_option maxHeartbeats 1000000 in
set_option maxRecDepth 100000 in
theorem eachApart_calls (v : Value) (p : PlanD) (mb : Nat) (m : Int) (w : World) (hp : PlanAt w v p) (hmb : mb < w.heap.size) (hmc : w.cell? ⟨mb, 0, none⟩ = some (.int .u32 m)) (hask : AskOk 32 #[.pointer (some ⟨mb, 0, none⟩)] (fun W => mb < W.heap.size ∧ W.cell? ⟨mb, 0, none⟩ = some (.int .u32 m))) :
    Calls Try.prog 17 #[v, .func (.func 32) #[] #[.pointer (some ⟨mb, 0, none⟩)]] w fun e w' => e = .returned (.bool true) ∧ Below w.heap.size w w' := by
  obtain ⟨⟨A, ce, B, cs, rfl, hE, hS⟩, hroot, hen⟩ := hp
  have hp : PlanAt w (.agg #[.slice A p.enums.length ce, .slice B p.structs.length cs, .int .u8 p.root, .bool p.tree]) p := ⟨⟨A, ce, B, cs, rfl, hE, hS⟩, hroot, hen⟩
  have HP := Lib.hid hp
  have HMC := Lib.hid hmc
  clear hp hE hS hen hroot hmc
  go_enter Try.func17, Try.ntmps17
  go_wp2_with fail
  refine (made_calls _ p _ (HP.out.below (below1 _ _))).mono ?_
  rintro e w1 ⟨hB, hm⟩
  have hz := hB.size
  simp only [World.size_alloc] at hz
  rcases hm with ⟨hno, rfl⟩ | ⟨hok, vv, rfl, vS, vE, rfl, hrecs, hch⟩
  · go_wp2
    go_ret
    exact ⟨rfl, by (repeat' (first | (with_reducible exact Below.refl _ _) | (with_reducible assumption) | (with_reducible refine Below.alloc ?_ ?_ _) | (with_reducible refine Below.drew ?_) | (with_reducible refine Below.setCell ?_ ?_ _) | (with_reducible refine Below.trans ?_ (Below.mono (by assumption) ?_)) | go_size))⟩
  · obtain ⟨aS, cS, rfl, hrow⟩ := hrecs
    obtain ⟨aE, cE, rfl, _⟩ := hch
    have hl : (madeP p).structs.length = p.structs.length := by simp [madeP]
    have hl2 : (madeP p).enums.length = p.enums.length := by simp [madeP]
    rw [hl] at hrow
    rw [hl, hl2]
    obtain ⟨rt, hrt⟩ : ∃ x, x = (madeP p).root := ⟨_, rfl⟩
    rw [← hrt]
    have HROW := Lib.hid hrow
    have HASK := Lib.hid hask
    clear hrow hask hl hl2 hrt
    go_wp2_with fail
    have hn16 : p.structs.length ≤ 16 := hok.2.1
    obtain ⟨wm, hwm⟩ : ∃ x, x = w1.alloc (Obj.cells #[.slice aS p.structs.length cS, .slice aE p.enums.length cE, .int .i64 rt] 33) := ⟨_, rfl⟩
    have hSB : wm.heap[w1.heap.size]? = some (.cells #[.slice aS p.structs.length cS, .slice aE p.enums.length cE, .int .i64 rt] 33 (0, 0)) := by rw [hwm]; exact blk_new _ _
    have hBm : Below w1.heap.size w1 wm := by rw [hwm]; exact below1 _ _
    have hzm := hBm.size
    rw [← hwm]
    have lS := blk_lt hSB
    go_loopw [19] (fun v19 wr => ∃ i : Nat, i ≤ p.structs.length ∧ v19 = .int .i64 i ∧ Below wm.heap.size wm wr) (fun v19 _ => p.structs.length - (intOf v19).toNat)
    case atStart => exact ⟨0, by omega, rfl, Below.refl _ _⟩
    case round =>
      obtain ⟨i, hi, rfl, hI⟩ := hrel
      have hSw := blk_below hSB hI lS
      have hzi := hI.size
      by_cases hin : i < p.structs.length
      · obtain ⟨bS, oS, rfl, hbS, hc⟩ := HROW.out (by omega)
        obtain ⟨b', c', h0, h1, hb', hf⟩ := hc i hin
        have hrg : rget (madeP p).structs i = madeRecord p i := by rw [madeP, rget_map _ _ _ hin]
        rw [hrg] at h0 h1 hf
        have hgd : goodFs (madeRecord p i).fields := made_good_fs p hok i hin
        obtain ⟨fs, hfs⟩ : ∃ x, x = (madeRecord p i).fields := ⟨_, rfl⟩
        obtain ⟨nm, hnm⟩ : ∃ x, x = (madeRecord p i).name := ⟨_, rfl⟩
        rw [← hfs] at h1 hf hgd
        rw [← hnm] at h0
        have hbw : Below w1.heap.size w1 wr := hBm.trans (hI.mono hzm)
        have k0 : wr.cell? ⟨bS, oS + i * 2, none⟩ = some (.string nm) := by rw [hbw.cell (p := ⟨bS, oS + i * 2, none⟩) hbS]; exact h0
        have k1 : wr.cell? ⟨bS, oS + i * 2 + 1, none⟩ = some (.slice (some ⟨b', 0, none⟩) fs.length c') := by rw [hbw.cell (p := ⟨bS, oS + i * 2 + 1, none⟩) hbS]; exact h1
        have lbS : bS < wr.heap.size := by omega
        have lb' : b' < wr.heap.size := by omega
        have lSr : w1.heap.size < wr.heap.size := by omega
        have hfr : FieldsRow wr b' fs := FieldsAt.below hf hbw hb'
        have hiI : (i : Int) < (p.structs.length : Int) := by omega
        have s0 : wr.cell? ⟨w1.heap.size, 0, none⟩ = some (.slice (some ⟨bS, oS, none⟩) p.structs.length cS) := by rw [blk_cell hSw]; rfl
        have s1 : wr.cell? ⟨w1.heap.size, 1, none⟩ = some (.slice aE p.enums.length cE) := by rw [blk_cell hSw]; rfl
        have s2 : wr.cell? ⟨w1.heap.size, 2, none⟩ = some (.int .i64 rt) := by rw [blk_cell hSw]; rfl
        have hbW : Below w.heap.size w wr := (((below1 w _).trans (hB.mono (by simp))).trans (hbw.mono (by omega)))
        have kc : wr.cell? ⟨mb, 0, none⟩ = some (.int .u32 m) := by rw [hbW.cell (p := ⟨mb, 0, none⟩) hmb]; exact HMC.out
        have km : mb < wr.heap.size := by omega
        have KC := Lib.hid kc
        clear kc
        have hcal : ∀ W, b' < W.heap.size → FieldsRow W b' fs → mb < W.heap.size → W.cell? ⟨mb, 0, none⟩ = some (.int .u32 m) → Calls Try.prog 32 #[.agg #[.slice (some ⟨bS, oS, none⟩) p.structs.length cS, .slice aE p.enums.length cE, .int .i64 rt], .agg #[.string nm, .slice (some ⟨b', 0, none⟩) fs.length c'], .pointer (some ⟨mb, 0, none⟩)] W fun e W' => e = .returned (.bool true) ∧ Below W.heap.size W W' := fun W g1 g2 g3 g4 => by
          simpa using HASK.out #[.slice (some ⟨bS, oS, none⟩) p.structs.length cS, .slice aE p.enums.length cE, .int .i64 rt] nm b' c' fs W hgd g1 g2 ⟨g3, g4⟩
        clear hrg hgd hfs hnm h0 h1 hf hc hbw
        go_wp2_with (first | (go_at_call 32; refine (hcal _ (by go_size) (hfr.below (below1 _ _) lb') (by go_size) (alloc_keep KC.out)).mono ?_; rintro e wB ⟨rfl, hB⟩; have hzB := hB.size; (try simp only [World.size_alloc, World.size_setCell, World.size_drew] at hzB); obtain ⟨hcB, hfB⟩ := bcell hB))
        go_roundw
        case rel => exact ⟨i + 1, by omega, by go_num, by (repeat' (first | (with_reducible exact Below.refl _ _) | (with_reducible assumption) | (with_reducible refine Below.alloc ?_ ?_ _) | (with_reducible refine Below.drew ?_) | (with_reducible refine Below.setCell ?_ ?_ _) | (with_reducible refine Below.trans ?_ (Below.mono (by assumption) ?_)) | go_size))⟩
        case measure => simp [intOf]; omega
      · obtain rfl : i = p.structs.length := by omega
        go_wp2
        go_ret
        exact ⟨rfl, by (repeat' (first | (with_reducible exact Below.refl _ _) | (with_reducible assumption) | (with_reducible refine Below.alloc ?_ ?_ _) | (with_reducible refine Below.drew ?_) | (with_reducible refine Below.setCell ?_ ?_ _) | (with_reducible refine Below.trans ?_ (Below.mono (by assumption) ?_)) | go_size))⟩

end Go.Proofs.Ytlfpakopahmdiaa
