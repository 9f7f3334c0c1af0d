/-
  The document's Utf8 and Text, over utf8's own decoder (seats whose cards tie its two tables).
-/
import Derived.Test.YtejpjclbeogajaaDoorDecU
namespace Go.Proofs.YtejpjclbeogajaaDoor
open Go.RowKit
set_option linter.unusedVariables false
set_option linter.unusedSimpArgs false

/-- utf8's two tables, as they are laid -/
def Tabs (w : World) : Prop := Lib.Utf8Tabs 1 2 w
theorem cell_below {w w' : World} {b j : Nat} {v : Value} (h : w.cell? ⟨b, j, none⟩ = some v) (hb : Below w.heap.size w w') : w'.cell? ⟨b, j, none⟩ = some v := by
  have hg : b < w.heap.size := by
    by_cases hl : b < w.heap.size
    · exact hl
    · rw [World.cell?] at h
      simp [Array.getElem?_eq_none (Nat.not_lt.1 hl)] at h
  exact (hb.cell (p := ⟨b, j, none⟩) hg).trans h
theorem Tabs.below {w w' : World} (h : Tabs w) (hb : Below w.heap.size w w') : Tabs w' :=
  ⟨fun c hc => cell_below (h.1 c hc) hb, fun i hi => ⟨cell_below (h.2 i hi).1 hb, cell_below (h.2 i hi).2 hb⟩⟩
theorem BytesAt.below {w w' : World} {b : Nat} {s : ByteArray} (h : BytesAt w b s) (hb : Below w.heap.size w w') : BytesAt w' b s := fun i hi => cell_below (h i hi) hb

theorem dec_at (s : ByteArray) (i : Nat) (hi : i < s.size) :
    (signLen s i = 0 ∧ Lib.decodeGo (s.extract i s.size) = (65533, 1)) ∨ (1 ≤ signLen s i ∧ ((Lib.decodeGo (s.extract i s.size)).2 : Int) = signLen s i ∧ (signLen s i = 1 → (Lib.decodeGo (s.extract i s.size)).1 < 128)) := by
  have hz : (s.extract i s.size).size = s.size - i := piece_size _ _ _ (Nat.le_refl _)
  have hb : ∀ j, ((s.extract i s.size).get! j).toNat = (bt s (i + j)).toNat := by
    intro j
    have h1 := bt_get (s.extract i s.size) j
    by_cases hj : j < s.size - i
    · rw [bt_piece s i s.size j hj (Nat.le_refl _)] at h1; omega
    · rw [bt_out _ j (by omega)] at h1; rw [bt_out s (i + j) (by omega)]; omega
  have hd : Lib.decodeGo (s.extract i s.size) = Lib.decodeN (s.size - i) (bt s i).toNat (bt s (i + 1)).toNat (bt s (i + 2)).toNat (bt s (i + 3)).toNat := by
    rw [Lib.decodeGo, if_neg (by omega), Lib.decode_at, hz, hb, hb, hb, hb]; rfl
  have b0 := bt_bd s i
  have b1 := bt_bd s (i + 1)
  have b2 := bt_bd s (i + 2)
  have b3 := bt_bd s (i + 3)
  have key := dec_sign (s.size - i) (bt s i).toNat (bt s (i + 1)).toNat (bt s (i + 2)).toNat (bt s (i + 3)).toNat (by omega) (by omega) (by omega) (by omega) (by omega)
  rw [signLen_N s i hi, hd]
  rcases key with ⟨a, b⟩ | ⟨a, b, c⟩
  · exact .inl ⟨by rw [a]; rfl, b⟩
  · exact .inr ⟨by omega, by rw [b], fun h => c (by omega)⟩

set_option maxHeartbeats 1000000 in
set_option maxRecDepth 100000 in
theorem refUtf8_calls (b cp : Nat) (s : ByteArray) (hs : s.size ≤ 100000) (hcp : s.size ≤ cp) (w : World) (hT : Tabs w) (hb : BytesAt w b s) :
    Calls Tryd.prog 119 #[.slice (some ⟨b, 0, none⟩) s.size cp] w fun e w' => e = .returned (.int .i64 (utf8Bad s)) ∧ Below w.heap.size w w' := by
  have HB := Lib.hid hb
  have HT := Lib.hid hT
  have hcpI : (s.size : Int) ≤ (cp : Int) := by omega
  clear hb hT
  go_enter Tryd.func119, Tryd.ntmps119
  go_wp2_with fail
  go_loopw [3] (fun v wr => ∃ i : Nat, i ≤ s.size ∧ v = .int .i64 i ∧ Hid (utf8Bad s = utfBad s s.size i) ∧ Below w.heap.size w wr) (fun v _ => s.size - (intOf v).toNat)
  case atStart => exact ⟨0, by omega, rfl, rfl, by (repeat' (first | (with_reducible exact Below.refl _ _) | (with_reducible assumption) | (with_reducible refine Below.alloc ?_ ?_ _) | (with_reducible refine Below.drew ?_) | (with_reducible refine Below.setCell ?_ ?_ _) | (with_reducible refine Below.trans ?_ (Below.mono (by assumption) ?_)) | go_size))⟩
  case round =>
    obtain ⟨i, hi, rfl, hu, hbw⟩ := hrel
    have HBW := Lib.hid hbw
    clear hbw
    by_cases h : i < s.size
    · have hiI : (i : Int) < (s.size : Int) := by omega
      have hicp : (i : Int) < (cp : Int) := by omega
      have hd := dec_at s i h
      have hcal := fun (W : World) (hT : Tabs W) (hb : BytesAt W b s) => Tryd.utf8_DecodeRune (s.extract i s.size) b i (cp - i) W hT (fun j hj => by
        rw [piece_size _ _ _ (Nat.le_refl _)] at hj
        rw [hb (i + j) (by omega), bt_get, bt_piece s i s.size j hj (Nat.le_refl _)])
      rw [piece_size _ _ _ (Nat.le_refl _)] at hcal
      obtain ⟨r, hr⟩ : ∃ r, r = (Lib.decodeGo (s.extract i s.size)).1 := ⟨_, rfl⟩
      obtain ⟨n, hn⟩ : ∃ n, n = (Lib.decodeGo (s.extract i s.size)).2 := ⟨_, rfl⟩
      have hrn : Lib.decodeGo (s.extract i s.size) = (r, n) := by rw [hr, hn]
      rw [hrn] at hd
      rw [← hr, ← hn] at hcal
      have HC := Lib.hid hcal
      clear hcal hr hn hrn
      have hbd := signLen_bd s i h
      rcases hd with ⟨h0, hd⟩ | ⟨h0, hd, hc⟩
      · obtain ⟨rfl, rfl⟩ := Prod.mk.inj hd
        have hfin : utf8Bad s = i := by rw [hu.out]; exact utfBad_stop s i h h0
        have HF := Lib.hid hfin
        clear hd h0 hfin hbd
        have hc1 : Calls Tryd.prog 141 #[.slice (some ⟨b, i, none⟩) (s.size - i) (cp - i)] wr fun e w' => e = Ending.returned (Value.tuple #[Value.int IntKind.i32 65533, Value.int IntKind.i64 1]) ∧ Below wr.heap.size wr w' := HC.out wr (HT.out.below HBW.out) (HB.out.below HBW.out)
        have HC1 := Lib.hid hc1
        clear hc1
        go_wp2_with fail
        refine HC1.out.mono ?_
        rintro e w1 ⟨rfl, hB1⟩
        have HB1 := Lib.hid hB1
        clear hB1
        go_wp2_with fail
        go_ret
        exact ⟨by rw [HF.out]; rfl, HBW.out.trans (HB1.out.mono HBW.out.size)⟩
      · have hin : i + n ≤ s.size := by omega
        have hn1 : 1 ≤ n := by omega
        have hst : utfBad s s.size i = utfBad s s.size (i + n) := by
          rw [utfBad_step s i h (by omega), ← hd, Int.toNat_natCast]
        have HST := Lib.hid hst
        have hc' : n = 1 → r < 128 := fun e => hc (by omega)
        have hn1I : (1 : Int) ≤ (n : Int) := by omega
        have hinI : (i : Int) + (n : Int) ≤ (s.size : Int) := by omega
        clear hst hbd h0 hd hc
        by_cases hr : r = 65533
        · have b1 : ((r : Int) == 65533) = true := by rw [hr]; rfl
          have hn2 : ¬ n = 1 := fun e => by have := hc' e; omega
          have d1 : decide ((n : Int) ≤ 1) = false := decide_eq_false (by omega)
          clear hr hc' hn2
          go_wp2_with fail
          refine (HC.out wr (HT.out.below HBW.out) (HB.out.below HBW.out)).mono ?_
          rintro e w1 ⟨rfl, hB1⟩
          have HB1 := Lib.hid hB1
          clear hB1
          go_wp2_with fail
          go_roundw
          case rel => exact ⟨i + n, hin, by go_num, hu.out.trans HST.out, HBW.out.trans (HB1.out.mono HBW.out.size)⟩
          case measure => simp [intOf]; omega
        · have b1 : ((r : Int) == 65533) = false := by rw [beq_eq_false_iff_ne]; omega
          clear hr hc'
          go_wp2_with fail
          refine (HC.out wr (HT.out.below HBW.out) (HB.out.below HBW.out)).mono ?_
          rintro e w1 ⟨rfl, hB1⟩
          have HB1 := Lib.hid hB1
          clear hB1
          go_wp2_with fail
          go_roundw
          case rel => exact ⟨i + n, hin, by go_num, hu.out.trans HST.out, HBW.out.trans (HB1.out.mono HBW.out.size)⟩
          case measure => simp [intOf]; omega
    · have hfin : utf8Bad s = -1 := by rw [hu.out]; exact utfBad_end s i h
      have HF := Lib.hid hfin
      clear hfin
      go_wp2_with fail
      go_ret
      exact ⟨by rw [HF.out]; rfl, HBW.out⟩

set_option maxHeartbeats 400000 in
theorem refText_calls (b cp : Nat) (s : ByteArray) (hs : s.size ≤ 100000) (hcp : s.size ≤ cp) (w : World) (hT : Tabs w) (hb : BytesAt w b s) :
    Calls Tryd.prog 82 #[.slice (some ⟨b, 0, none⟩) s.size cp] w fun e w' => e = .returned (.bool (decide (utf8Bad s < 0))) ∧ Below w.heap.size w w' := by
  have h := refUtf8_calls b cp s hs hcp w hT hb
  clear hb hT
  go_enter Tryd.func82, Tryd.ntmps82
  go_wp2_with fail
  refine h.mono ?_
  rintro e w1 ⟨rfl, hB1⟩
  have HB1 := Lib.hid hB1
  clear hB1 h
  go_wp2_with fail
  go_ret
  exact ⟨rfl, HB1.out⟩

end Go.Proofs.YtejpjclbeogajaaDoor
