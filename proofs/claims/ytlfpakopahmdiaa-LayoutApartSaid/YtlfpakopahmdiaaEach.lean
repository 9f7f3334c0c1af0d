/-
  transomlaw06.each: is something so of each struct of a made schema? (LayoutWords' question; the others' texts are made of this one by gen_each.py)
-/
import Derived.Test.YtlfpakopahmdiaaMade
import Derived.Test.YtlfpakopahmdiaaAsk
namespace Go.Proofs.Ytlfpakopahmdiaa
open Go.RowKit
set_option linter.unusedVariables false
set_option linter.unusedSimpArgs false

theorem made_calls (v : Value) (p : PlanD) (w : World) (hp : PlanAt w v p) : Calls Try.prog 44 #[v] w (MadePost w p) := by
  by_cases h : 1 ≤ p.structs.length ∧ p.structs.length ≤ 16 ∧ p.enums.length ≤ 8
  · exact made_good v p w hp h.1 h.2.1 h.2.2
  · exact made_bad v p w hp (by omega)

set_option maxHeartbeats 1000000 in
set_option maxRecDepth 100000 in
theorem eachWords_calls (v : Value) (p : PlanD) (w : World) (hp : PlanAt w v p) (hask : AskOk 18 #[] (fun _ => True)) :
    Calls Try.prog 17 #[v, .func (.func 18) #[] #[]] w fun e w' => e = .returned (.bool true) ∧ Below w.heap.size w w' := by
  obtain ⟨⟨A, ce, B, cs, rfl, hE, hS⟩, hroot, hen⟩ := hp
  have hp : PlanAt w (.agg #[.slice A p.enums.length ce, .slice B p.structs.length cs, .int .u8 p.root, .bool p.tree]) p := ⟨⟨A, ce, B, cs, rfl, hE, hS⟩, hroot, hen⟩
  have HP := Lib.hid hp
  clear hp hE hS hen hroot
  go_enter Try.func17, Try.ntmps17
  go_wp2_with fail
  refine (made_calls _ p _ (HP.out.below (below1 _ _))).mono ?_
  rintro e w1 ⟨hB, hm⟩
  have hz := hB.size
  simp only [World.size_alloc] at hz
  rcases hm with ⟨hno, rfl⟩ | ⟨hok, vv, rfl, vS, vE, rfl, hrecs, hch⟩
  · go_wp2
    go_ret
    exact ⟨rfl, by (repeat' (first | (with_reducible exact Below.refl _ _) | (with_reducible assumption) | (with_reducible refine Below.alloc ?_ ?_ _) | (with_reducible refine Below.drew ?_) | (with_reducible refine Below.setCell ?_ ?_ _) | (with_reducible refine Below.trans ?_ (Below.mono (by assumption) ?_)) | go_size))⟩
  · obtain ⟨aS, cS, rfl, hrow⟩ := hrecs
    obtain ⟨aE, cE, rfl, _⟩ := hch
    have hl : (madeP p).structs.length = p.structs.length := by simp [madeP]
    have hl2 : (madeP p).enums.length = p.enums.length := by simp [madeP]
    rw [hl] at hrow
    rw [hl, hl2]
    obtain ⟨rt, hrt⟩ : ∃ x, x = (madeP p).root := ⟨_, rfl⟩
    rw [← hrt]
    have HROW := Lib.hid hrow
    have HASK := Lib.hid hask
    clear hrow hask hl hl2 hrt
    go_wp2_with fail
    have hn16 : p.structs.length ≤ 16 := hok.2.1
    obtain ⟨wm, hwm⟩ : ∃ x, x = w1.alloc (Obj.cells #[.slice aS p.structs.length cS, .slice aE p.enums.length cE, .int .i64 rt] 33) := ⟨_, rfl⟩
    have hSB : wm.heap[w1.heap.size]? = some (.cells #[.slice aS p.structs.length cS, .slice aE p.enums.length cE, .int .i64 rt] 33 (0, 0)) := by rw [hwm]; exact blk_new _ _
    have hBm : Below w1.heap.size w1 wm := by rw [hwm]; exact below1 _ _
    have hzm := hBm.size
    rw [← hwm]
    have lS := blk_lt hSB
    go_loopw [19] (fun v19 wr => ∃ i : Nat, i ≤ p.structs.length ∧ v19 = .int .i64 i ∧ Below wm.heap.size wm wr) (fun v19 _ => p.structs.length - (intOf v19).toNat)
    case atStart => exact ⟨0, by omega, rfl, Below.refl _ _⟩
    case round =>
      obtain ⟨i, hi, rfl, hI⟩ := hrel
      have hSw := blk_below hSB hI lS
      have hzi := hI.size
      by_cases hin : i < p.structs.length
      · obtain ⟨bS, oS, rfl, hbS, hc⟩ := HROW.out (by omega)
        obtain ⟨b', c', h0, h1, hb', hf⟩ := hc i hin
        have hrg : rget (madeP p).structs i = madeRecord p i := by rw [madeP, rget_map _ _ _ hin]
        rw [hrg] at h0 h1 hf
        have hgd : goodFs (madeRecord p i).fields := made_good_fs p hok i hin
        obtain ⟨fs, hfs⟩ : ∃ x, x = (madeRecord p i).fields := ⟨_, rfl⟩
        obtain ⟨nm, hnm⟩ : ∃ x, x = (madeRecord p i).name := ⟨_, rfl⟩
        rw [← hfs] at h1 hf hgd
        rw [← hnm] at h0
        have hbw : Below w1.heap.size w1 wr := hBm.trans (hI.mono hzm)
        have k0 : wr.cell? ⟨bS, oS + i * 2, none⟩ = some (.string nm) := by rw [hbw.cell (p := ⟨bS, oS + i * 2, none⟩) hbS]; exact h0
        have k1 : wr.cell? ⟨bS, oS + i * 2 + 1, none⟩ = some (.slice (some ⟨b', 0, none⟩) fs.length c') := by rw [hbw.cell (p := ⟨bS, oS + i * 2 + 1, none⟩) hbS]; exact h1
        have lbS : bS < wr.heap.size := by omega
        have lb' : b' < wr.heap.size := by omega
        have lSr : w1.heap.size < wr.heap.size := by omega
        have hfr : FieldsRow wr b' fs := FieldsAt.below hf hbw hb'
        have hiI : (i : Int) < (p.structs.length : Int) := by omega
        have s0 : wr.cell? ⟨w1.heap.size, 0, none⟩ = some (.slice (some ⟨bS, oS, none⟩) p.structs.length cS) := by rw [blk_cell hSw]; rfl
        have s1 : wr.cell? ⟨w1.heap.size, 1, none⟩ = some (.slice aE p.enums.length cE) := by rw [blk_cell hSw]; rfl
        have s2 : wr.cell? ⟨w1.heap.size, 2, none⟩ = some (.int .i64 rt) := by rw [blk_cell hSw]; rfl
        have hcal : ∀ W, b' < W.heap.size → FieldsRow W b' fs → Calls Try.prog 18 #[.agg #[.slice (some ⟨bS, oS, none⟩) p.structs.length cS, .slice aE p.enums.length cE, .int .i64 rt], .agg #[.string nm, .slice (some ⟨b', 0, none⟩) fs.length c']] W fun e W' => e = .returned (.bool true) ∧ Below W.heap.size W W' := fun W g1 g2 => by
          simpa using HASK.out #[.slice (some ⟨bS, oS, none⟩) p.structs.length cS, .slice aE p.enums.length cE, .int .i64 rt] nm b' c' fs W hgd g1 g2 trivial
        clear hrg hgd hfs hnm h0 h1 hf hc hbw
        go_wp2_with (first | (go_at_call 18; refine (hcal _ (by go_size) (hfr.below (below1 _ _) lb')).mono ?_; rintro e wB ⟨rfl, hB⟩; have hzB := hB.size; (try simp only [World.size_alloc, World.size_setCell, World.size_drew] at hzB); obtain ⟨hcB, hfB⟩ := bcell hB))
        go_roundw
        case rel => exact ⟨i + 1, by omega, by go_num, by (repeat' (first | (with_reducible exact Below.refl _ _) | (with_reducible assumption) | (with_reducible refine Below.alloc ?_ ?_ _) | (with_reducible refine Below.drew ?_) | (with_reducible refine Below.setCell ?_ ?_ _) | (with_reducible refine Below.trans ?_ (Below.mono (by assumption) ?_)) | go_size))⟩
        case measure => simp [intOf]; omega
      · obtain rfl : i = p.structs.length := by omega
        go_wp2
        go_ret
        exact ⟨rfl, by (repeat' (first | (with_reducible exact Below.refl _ _) | (with_reducible assumption) | (with_reducible refine Below.alloc ?_ ?_ _) | (with_reducible refine Below.drew ?_) | (with_reducible refine Below.setCell ?_ ?_ _) | (with_reducible refine Below.trans ?_ (Below.mono (by assumption) ?_)) | go_size))⟩

end Go.Proofs.Ytlfpakopahmdiaa
