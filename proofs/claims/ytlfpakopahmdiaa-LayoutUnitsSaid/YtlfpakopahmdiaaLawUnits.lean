/-
  The statement LayoutUnits, as a walk.
-/
import Derived.Test.YtlfpakopahmdiaaAwake06
namespace Go.Proofs.Ytlfpakopahmdiaa
open Go.RowKit
set_option linter.unusedVariables false
set_option linter.unusedSimpArgs false

/-- '[]rune(s)' in one piece -/
theorem runes_conv (w : World) (s : ByteArray) (hs : s.size ≤ 100000) :
    ∃ W c, (convert 9 46 (.string s)).run Try.prog w = .ok (.slice (some ⟨w.heap.size, 0, none⟩) (runesOf s).length c) W ∧ w.heap.size < W.heap.size ∧ Below w.heap.size w W ∧
      ∀ j, j < (runesOf s).length → W.cell? ⟨w.heap.size, j, none⟩ = some (.int .i32 (((runesOf s).map fun r : Nat => (r : Int)).getD j 0)) := by
  have hr := run_runes_of_string (P := Try.prog) w 9 46 21 s Try.underlying9 Try.underlying46 Try.underlying21 (by
    rw [runesFrom_eq]; have := runesL_len s s.size 0; simp; omega)
  rw [runesFrom_eq] at hr
  have hlen : ((#[] : Array Value) ++ ((runesL s s.size 0).map fun r : Nat => Value.int .i32 (r : Int)).toArray).size = (runesOf s).length := by simp [runesOf]
  rw [hlen] at hr
  refine ⟨_, _, hr, by simp, ((Below.refl _ _).drew.alloc (Nat.le_refl _) _), fun j hj => ?_⟩
  have hb := heap_alloc_new w.drew (.cells (#[] ++ ((runesL s s.size 0).map fun r : Nat => Value.int .i32 (r : Int)).toArray ++ Array.replicate (grownCap w (runesOf s).length 0 21 - (runesOf s).length) (.int .i32 0)) 21)
  have hb' : (w.drew.alloc (.cells (#[] ++ ((runesL s s.size 0).map fun r : Nat => Value.int .i32 (r : Int)).toArray ++ Array.replicate (grownCap w (runesOf s).length 0 21 - (runesOf s).length) (.int .i32 0)) 21)).heap[w.heap.size]? = _ := hb
  rw [blk_cell hb']
  unfold runesOf at hj ⊢
  rw [Array.getElem?_append_left (by simpa using hj)]
  simp [hj]

set_option maxHeartbeats 1000000 in
set_option maxRecDepth 100000 in
theorem layoutUnits_walk (s : ByteArray) (w : World) (hs : s.size ≤ 140737488351232) :
    Calls Try.prog 4 #[.string s] w fun e w' => e = .returned (.bool true) ∧ Below w.heap.size w w' := by
  by_cases h3 : s.size ≤ 3000
  · have hn := reText_size s
    have h3b : decide ((3000 : Int) < (s.size : Int)) = false := by simp; omega
    go_enter Try.func4, Try.ntmps4
    go_wp2_with fail
    refine (awake06_calls w).mono ?_
    rintro e w1 ⟨rfl, hB1⟩
    have hz1 := hB1.size
    obtain ⟨W2, c, hrun, hsz2, hB2, hcells⟩ := runes_conv w1 s (by omega)
    have hback : (convert 46 9 (.slice (some ⟨w1.heap.size, 0, none⟩) (runesOf s).length c)).run Try.prog W2 = .ok (.string (reText s)) W2 := by
      have h := run_convert_runes (P := Try.prog) W2 46 9 21 ⟨w1.heap.size, 0, none⟩ (runesOf s).length c ((runesOf s).map fun r : Nat => (r : Int)) (by simp) Try.underlying46 Try.underlying21 Try.underlying9
        (fun j hj => by rw [Addr.add_lit, Nat.zero_add]; exact hcells j (by simpa using hj))
      rw [h, List.take_of_length_le (by simp)]
      rfl
    have Hc := Lib.hid hcells
    have hB3 := hB1.trans (hB2.mono hz1)
    have hz3 := hB3.size
    clear hcells hB2
    obtain ⟨t, ht⟩ : ∃ t, t = reText s := ⟨_, rfl⟩
    rw [← ht] at hback hn
    have htI : t.size ≤ 100000 := by omega
    clear ht hn
    go_wp2_with fail
    refine (layoutUnits_calls _ htI _).mono ?_
    rintro e w4 ⟨v, rfl, hown4, hB4⟩
    have hz4 := hB4.size
    obtain ⟨a4, c4, rfl, ho4⟩ := own_open hown4
    have H4 := Lib.hid ho4
    clear ho4 hrun hback
    go_wp2_with fail
    refine (refUnits_calls _ htI _).mono ?_
    rintro e w5 ⟨v, rfl, hown5, hB5⟩
    have hz5 := hB5.size
    obtain ⟨a5, c5, rfl, ho5⟩ := own_open hown5
    have H5 := Lib.hid ho5
    clear ho5 hown4 hown5
    have hul : (unitsOf t).length = (runesOf t).length + farOf (runesOf t) := units_len _
    have Hul := Lib.hid hul
    have hrl := runesOf_le t
    have hul2 : (unitsOf t).length ≤ 200000 := by
      have : farOf (runesOf t) ≤ (runesOf t).length := List.length_filter_le _ _
      omega
    have hBall := ((hB3.trans (hB4.mono hz3)).trans (hB5.mono (by omega)))
    clear hul
    generalize hU : unitsOf t = U at *
    have HU := Lib.hid hU
    clear hU
    go_wp2
    have H45 := Lib.hid hB5
    clear hB1 hB3 hB4 hB5
    go_loopw [5, 6] (fun v5 v6 wr => ∃ (pos fuel : Nat) (done : List Nat), wr.heap[w5.heap.size]? = some (.stringIter t pos) ∧ Below w5.heap.size w5 wr ∧ done ++ runesL t fuel pos = runesOf t ∧ t.size ≤ pos + fuel ∧ v5 = .int .i64 (done.length : Int) ∧ v6 = .int .i64 (farOf done : Int)) (fun _ _ wr => t.size - wr.iterPos w5.heap.size)
    case atStart => exact ⟨0, t.size, [], blk_new _ _, (Below.refl _ _).alloc (Nat.le_refl _) _, rfl, by omega, rfl, rfl⟩
    case round =>
      obtain ⟨pos, fuel, done, hit, hbw, hd, hfu, rfl, rfl⟩ := hrel
      have hdl : done.length ≤ 100000 := by have := congrArg List.length hd; simp at this; omega
      have hfl : farOf done ≤ done.length := List.length_filter_le _ _
      by_cases hp : pos < t.size
      · obtain ⟨W2, r, wd, hnx, hit2, hoth, hs2, hb2, htop, hwd, hrun⟩ := next_some (P := Try.prog) wr w5.heap.size t pos hit hp
        obtain ⟨f, rfl⟩ : ∃ f, fuel = f + 1 := ⟨fuel - 1, by omega⟩
        rw [hrun f] at hd
        have Hd := Lib.hid hd
        have Hpos := Lib.hid (iterPos_of hit)
        have hbw2 := hbw.trans hb2
        have Htop := Lib.hid htop
        clear hd hrun hit hoth hbw hb2 htop
        by_cases hr : 65535 < r
        · have hrb : decide ((65535 : Int) < (r : Int)) = true := by simp; omega
          have Hr := Lib.hid hr
          clear hr
          go_wp2
          go_roundw
          case rel =>
            refine ⟨pos + wd, f, done ++ [r], hit2, hbw2, by rw [← Hd.out]; simp, by omega, ?_, ?_⟩
            · simp
            · have := Hr.out; simp [farOf, this]
          case measure => rw [Hpos.out, iterPos_of hit2]; omega
        · have hrb : decide ((65535 : Int) < (r : Int)) = false := by simp; omega
          have Hr := Lib.hid hr
          clear hr
          go_wp2
          go_roundw
          case rel =>
            refine ⟨pos + wd, f, done ++ [r], hit2, hbw2, by rw [← Hd.out]; simp, by omega, ?_, ?_⟩
            · simp
            · have := Hr.out; simp [farOf, this]
          case measure => rw [Hpos.out, iterPos_of hit2]; omega
      · have hnx : ∀ ty, (Instr.next (.pointer (some ⟨w5.heap.size, 0, none⟩)) true ty).run Try.prog wr = _ := fun ty => Lib.run_next_end_at wr w5.heap.size t pos ty hit hp
        rw [runesL_end t fuel pos hp, List.append_nil] at hd
        subst hd
        have hfin := Lib.hid hbw
        clear hbw
        have hHid := H4.out
        go_wp2
        clear hnx hit
        go_loopw [40] (fun v40 wr => ∃ k : Nat, k ≤ U.length ∧ v40 = .int .i64 (k : Int) ∧ Below w5.heap.size w5 wr) (fun v40 _ => U.length - (intOf v40).toNat)
        case atStart => exact ⟨0, by omega, rfl, hfin.out⟩
        case round =>
          obtain ⟨k, hk, rfl, hbw⟩ := hrel
          by_cases hkn : k < U.length
          · obtain ⟨g4, rfl, _, hg4, q4⟩ := H4.out (by omega)
            obtain ⟨g5, rfl, _, hg5, q5⟩ := H5.out (by omega)
            have hx := unitsOf_bd t U[k] (by rw [HU.out]; exact List.getElem_mem hkn)
            have hu : U[k]? = some U[k] := List.getElem?_eq_getElem hkn
            have c4' : wr.cell? ⟨g4, k, none⟩ = some (.int .u16 U[k]) := by
              rw [hbw.cell (p := ⟨g4, k, none⟩) (by simp; omega), (show w5.cell? ⟨g4, k, none⟩ = w4.cell? ⟨g4, k, none⟩ from H45.out.cell (p := ⟨g4, k, none⟩) hg4), q4 k hkn]
              simp [hu]
            have c5' : wr.cell? ⟨g5, k, none⟩ = some (.int .i64 U[k]) := by
              rw [hbw.cell (p := ⟨g5, k, none⟩) hg5, q5 k hkn]
              simp [hu]
            clear q4 q5 hu
            obtain ⟨x, hxe⟩ : ∃ x, x = U[k] := ⟨_, rfl⟩
            rw [← hxe] at hx c4' c5'
            clear hxe
            go_wp2
            go_quiet (fail)
            all_goals go_wp2
            go_roundw
            case rel => exact ⟨k + 1, by omega, by go_num, by first | exact below_drewN hbw _ | exact hbw.drew | exact hbw⟩
            case measure => simp [intOf]; omega
          · go_wp2
            go_ret
            refine ⟨?_, hBall.trans (hbw.mono (by omega))⟩
            have hul := Hul.out
            simp [hul]
  · have h3b : decide ((3000 : Int) < (s.size : Int)) = true := by simp; omega
    go_enter Try.func4, Try.ntmps4
    go_wp2_with fail
    refine (awake06_calls w).mono ?_
    rintro e w1 ⟨rfl, hB1⟩
    go_wp2
    go_ret
    exact ⟨rfl, hB1⟩

end Go.Proofs.Ytlfpakopahmdiaa
