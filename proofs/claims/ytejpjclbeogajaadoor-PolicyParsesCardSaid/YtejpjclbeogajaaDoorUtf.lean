/-
  wire.sign, wire.Utf8: where bytes first aren't UTF-8.
-/
import Derived.Test.YtejpjclbeogajaaDoorLexS
import Derived.Deep.DeepCutAuto
import Derived.Deep.CutBlock
namespace Go.Proofs.YtejpjclbeogajaaDoor
open Go.RowKit
set_option linter.unusedVariables false
set_option linter.unusedSimpArgs false

/-- a first byte: how many bytes the sign has, and between which its second one lies -/
def leadN (c : Int) : Int := if 194 ≤ c ∧ c ≤ 223 then 2 else if 224 ≤ c ∧ c ≤ 239 then 3 else if 240 ≤ c ∧ c ≤ 244 then 4 else 0
def leadLo (c : Int) : Int := if c = 224 then 160 else if c = 240 then 144 else 128
def leadHi (c : Int) : Int := if c = 237 then 159 else if c = 244 then 143 else 191
def isTail (c : Int) : Bool := decide (128 ≤ c) && decide (c ≤ 191)
def signLen (s : ByteArray) (i : Nat) : Int :=
  if bt s i < 128 then 1 else if leadN (bt s i) = 0 then 0
  else if (s.size : Int) - i < leadN (bt s i) ∨ bt s (i + 1) < leadLo (bt s i) ∨ leadHi (bt s i) < bt s (i + 1) then 0
  else if (2 < leadN (bt s i) → isTail (bt s (i + 2)) = true) ∧ (3 < leadN (bt s i) → isTail (bt s (i + 3)) = true) then leadN (bt s i) else 0

def BytesAt (w : World) (b : Nat) (s : ByteArray) : Prop := ∀ i, i < s.size → w.cell? ⟨b, i, none⟩ = some (.int .u8 (bt s i))

set_option maxHeartbeats 1000000 in
set_option maxRecDepth 100000 in
theorem wireSign_calls (b cp : Nat) (s : ByteArray) (i : Nat) (hs : s.size ≤ 100000) (hcp : s.size ≤ cp) (hi : i < s.size) (w : World) (hb : BytesAt w b s) :
    Calls Tryd.prog 138 #[.slice (some ⟨b, 0, none⟩) s.size cp, .int .i64 i] w fun e w' => e = .returned (.int .i64 (signLen s i)) ∧ w = w' := by
  have h0 := hb i hi
  have hbd := bt_bd s i
  obtain ⟨c, hc⟩ : ∃ c, c = bt s i := ⟨_, rfl⟩
  rw [← hc] at h0 hbd
  have HC := Lib.hid hc
  have HB := Lib.hid hb
  have hiI : (i : Int) < (s.size : Int) := by omega
  have hbd0 := hbd.1
  have hbd1 := hbd.2
  clear hc hb hbd
  go_enter Tryd.func138, Tryd.ntmps138
  by_cases h1 : c < 128
  · go_wp2
    go_ret
    exact ⟨by rw [signLen, ← HC.out, if_pos h1]; rfl, rfl⟩
  by_cases hn : leadN c = 0
  · have HN := Lib.hid hn
    have hfin : signLen s i = 0 := by rw [signLen, ← HC.out, if_neg h1, if_pos hn]
    have HF := Lib.hid hfin
    have q1 : decide (c < 128) = false := decide_eq_false h1
    unfold leadN at hn
    have hq : c < 194 ∨ 244 < c := by
      split at hn
      · cases hn
      · split at hn
        · cases hn
        · split at hn
          · cases hn
          · omega
    clear hn hfin
    rcases hq with hq | hq
    all_goals
      go_wp2
      go_ret
      exact ⟨by rw [HF.out]; rfl, rfl⟩
  have q1 : decide (c < 128) = false := decide_eq_false h1
  have hcls : (194 ≤ c ∧ c ≤ 223) ∨ (224 ≤ c ∧ c ≤ 239) ∨ (240 ≤ c ∧ c ≤ 244) := by
    by_cases a1 : 194 ≤ c ∧ c ≤ 223
    · exact .inl a1
    · by_cases a2 : 224 ≤ c ∧ c ≤ 239
      · exact .inr (.inl a2)
      · by_cases a3 : 240 ≤ c ∧ c ≤ 244
        · exact .inr (.inr a3)
        · exact absurd (by rw [leadN, if_neg a1, if_neg a2, if_neg a3]) hn
  have HCLS := Lib.hid hcls
  have HNN := Lib.hid hn
  have HQ1 := Lib.hid h1
  clear hcls hn
  go_upto_block 0 with (fail)
  go_cut [6, 7, 8] (fun v6 v7 v8 wc => v6 = .int .i64 (leadN c) ∧ v7 = .int .u8 (leadLo c) ∧ v8 = .int .u8 (leadHi c) ∧ w = wc)
  case first =>
    rcases HCLS.out with ⟨a, b'⟩ | ⟨a, b'⟩ | ⟨a, b'⟩
    · go_wp2
      go_meet
      case rel => exact ⟨congrArg _ (by rw [leadN, if_pos ⟨a, b'⟩]), congrArg _ (by unfold leadLo; split <;> (try split) <;> omega), congrArg _ (by unfold leadHi; split <;> (try split) <;> omega), rfl⟩
    · have a1 : 223 < c := by omega
      by_cases e1 : c = 224
      · have b1 : (c == 224) = true := by rw [beq_iff_eq]; exact e1
        have b2 : (c == 237) = false := by rw [beq_eq_false_iff_ne]; omega
        have E1 := Lib.hid e1
        clear e1
        go_wp2
        go_meet
        case rel => exact ⟨congrArg _ (by rw [leadN, if_neg (by omega), if_pos ⟨a, b'⟩]), congrArg _ (by rw [leadLo, if_pos E1.out]), congrArg _ (by rw [leadHi, if_neg (by have := E1.out; omega), if_neg (by omega)]), rfl⟩
      · have b1 : (c == 224) = false := by rw [beq_eq_false_iff_ne]; exact e1
        by_cases e2 : c = 237
        · have b2 : (c == 237) = true := by rw [beq_iff_eq]; exact e2
          have E2 := Lib.hid e2
          clear e2
          go_wp2
          go_meet
          case rel => exact ⟨congrArg _ (by rw [leadN, if_neg (by omega), if_pos ⟨a, b'⟩]), congrArg _ (by rw [leadLo, if_neg e1, if_neg (by omega)]), congrArg _ (by rw [leadHi, if_pos E2.out]), rfl⟩
        · have b2 : (c == 237) = false := by rw [beq_eq_false_iff_ne]; exact e2
          go_wp2
          go_meet
          case rel => exact ⟨congrArg _ (by rw [leadN, if_neg (by omega), if_pos ⟨a, b'⟩]), congrArg _ (by rw [leadLo, if_neg e1, if_neg (by omega)]), congrArg _ (by rw [leadHi, if_neg e2, if_neg (by omega)]), rfl⟩
    · have a1 : 239 < c := by omega
      have a2 : 223 < c := by omega
      by_cases e1 : c = 240
      · have b1 : (c == 240) = true := by rw [beq_iff_eq]; exact e1
        have b2 : (c == 244) = false := by rw [beq_eq_false_iff_ne]; omega
        have E1 := Lib.hid e1
        clear e1
        go_wp2
        go_meet
        case rel => exact ⟨congrArg _ (by rw [leadN, if_neg (by omega), if_neg (by omega), if_pos ⟨a, b'⟩]), congrArg _ (by rw [leadLo, if_neg (by omega), if_pos E1.out]), congrArg _ (by rw [leadHi, if_neg (by omega), if_neg (by have := E1.out; omega)]), rfl⟩
      · have b1 : (c == 240) = false := by rw [beq_eq_false_iff_ne]; exact e1
        by_cases e2 : c = 244
        · have b2 : (c == 244) = true := by rw [beq_iff_eq]; exact e2
          have E2 := Lib.hid e2
          clear e2
          go_wp2
          go_meet
          case rel => exact ⟨congrArg _ (by rw [leadN, if_neg (by omega), if_neg (by omega), if_pos ⟨a, b'⟩]), congrArg _ (by rw [leadLo, if_neg (by omega), if_neg e1]), congrArg _ (by rw [leadHi, if_neg (by omega), if_pos E2.out]), rfl⟩
        · have b2 : (c == 244) = false := by rw [beq_eq_false_iff_ne]; exact e2
          go_wp2
          go_meet
          case rel => exact ⟨congrArg _ (by rw [leadN, if_neg (by omega), if_neg (by omega), if_pos ⟨a, b'⟩]), congrArg _ (by rw [leadLo, if_neg (by omega), if_neg e1]), congrArg _ (by rw [leadHi, if_neg (by omega), if_neg e2]), rfl⟩
  obtain ⟨rfl, rfl, rfl, rfl⟩ := hcut
  obtain ⟨n, hne⟩ : ∃ n, n = leadN c := ⟨_, rfl⟩
  obtain ⟨lo, hlo⟩ : ∃ n, n = leadLo c := ⟨_, rfl⟩
  obtain ⟨hh, hhh⟩ : ∃ n, n = leadHi c := ⟨_, rfl⟩
  rw [← hne, ← hlo, ← hhh]
  have hn234 : n = 2 ∨ n = 3 ∨ n = 4 := by
    have := HNN.out
    rw [hne]; unfold leadN at this ⊢
    split
    · exact .inl rfl
    · split
      · exact .inr (.inl rfl)
      · split
        · exact .inr (.inr rfl)
        · rename_i g1 g2 g3; rw [if_neg g1, if_neg g2, if_neg g3] at this; exact absurd rfl this
  have hsl : signLen s i = if (s.size : Int) - i < n ∨ bt s (i + 1) < lo ∨ hh < bt s (i + 1) then 0 else if (2 < n → isTail (bt s (i + 2)) = true) ∧ (3 < n → isTail (bt s (i + 3)) = true) then n else 0 := by
    rw [signLen, ← HC.out, if_neg HQ1.out, if_neg HNN.out, ← hne, ← hlo, ← hhh]
  have HSL := Lib.hid hsl
  have H234 := Lib.hid hn234
  have hn2 : 2 ≤ n := by omega
  have hn4 : n ≤ 4 := by omega
  clear hne hlo hhh hsl hn234 h0
  by_cases hlt : (s.size : Int) - i < n
  · have hfin : signLen s i = 0 := by rw [HSL.out, if_pos (.inl hlt)]
    have HF := Lib.hid hfin
    clear hfin
    go_wp2
    go_ret
    exact ⟨by rw [HF.out]; rfl, rfl⟩
  have hi1 : i + 1 < s.size := by omega
  have c1 : w.cell? ⟨b, i + 1, none⟩ = some (.int .u8 (bt s (i + 1))) := HB.out (i + 1) hi1
  have hyb := bt_bd s (i + 1)
  obtain ⟨y, hy⟩ : ∃ y, y = bt s (i + 1) := ⟨_, rfl⟩
  rw [← hy] at c1 hyb
  have hy0 := hyb.1
  have hy1 := hyb.2
  have HY := Lib.hid hy
  have hi1I : (i : Int) + 1 < (s.size : Int) := by omega
  clear hy hyb
  by_cases hbad : y < lo ∨ hh < y
  · have hfin : signLen s i = 0 := by rw [HSL.out, if_pos (.inr (by rw [← HY.out]; exact hbad))]
    have HF := Lib.hid hfin
    have hq : y < lo ∨ (lo ≤ y ∧ hh < y) := by omega
    clear hfin hbad
    rcases hq with hq | ⟨hq, hq2⟩
    all_goals
      go_wp2
      go_ret
      exact ⟨by rw [HF.out]; rfl, rfl⟩
  have hq1 : lo ≤ y := by omega
  have hq2 : y ≤ hh := by omega
  clear hbad
  have hgood : ¬ ((s.size : Int) - i < n ∨ bt s (i + 1) < lo ∨ hh < bt s (i + 1)) := by rw [← HY.out]; omega
  have HG := Lib.hid hgood
  have d1 : decide (y < lo) = false := decide_eq_false (by omega)
  have d2 : decide (hh < y) = false := decide_eq_false (by omega)
  clear hgood
  rcases H234.out with rfl | rfl | rfl
  · have hfin : signLen s i = 2 := by rw [HSL.out, if_neg HG.out, if_pos ⟨fun h => by omega, fun h => by omega⟩]
    have HF := Lib.hid hfin
    clear hfin
    by_cases hcap : cp = i + 2
    all_goals
      have hcapI : (i : Int) + 2 ≤ (cp : Int) := by omega
      go_wp2
      go_loop [79] (fun v => v = .int .i64 0) (fun _ => 0)
      case atStart => rfl
      case round =>
        obtain rfl := hrel
        go_wp2
        go_ret
        exact ⟨by rw [HF.out]; rfl, rfl⟩
  · have h2s : i + 2 < s.size := by omega
    have c2 : w.cell? ⟨b, i + 2, none⟩ = some (.int .u8 (bt s (i + 2))) := HB.out (i + 2) h2s
    have hzb := bt_bd s (i + 2)
    obtain ⟨z, hz⟩ : ∃ y, y = bt s (i + 2) := ⟨_, rfl⟩
    rw [← hz] at c2 hzb
    have hz0 := hzb.1
    have hz1 := hzb.2
    have HZ := Lib.hid hz
    have h3I : (i : Int) + 3 ≤ (s.size : Int) := by omega
    have h3c : (i : Int) + 3 ≤ (cp : Int) := by omega
    clear hz hzb
    have h2c : ¬ (i : Int) + 2 = (cp : Int) := by omega
    have hyes : isTail z = true → signLen s i = 3 := fun h => by rw [HSL.out, if_neg HG.out, if_pos ⟨fun _ => by rw [← HZ.out]; exact h, fun h => by omega⟩]
    have hno : ¬ (128 ≤ z ∧ z ≤ 191) → signLen s i = 0 := fun h => by rw [HSL.out, if_neg HG.out, if_neg (fun g => h (by have := g.1 (by omega); rw [← HZ.out] at this; simpa [isTail] using this))]
    have HYES := Lib.hid hyes
    have HNO := Lib.hid hno
    clear hyes hno
    go_wp2
    go_loop [79] (fun v => v = .int .i64 0 ∨ (v = .int .i64 1 ∧ Hid (isTail z = true))) (fun v => (1 - intOf v).toNat)
    case atStart => exact .inl rfl
    case round =>
      rcases hrel with rfl | ⟨rfl, ht⟩
      · by_cases ht : 128 ≤ z ∧ z ≤ 191
        · have ht1 := ht.1
          have ht2 := ht.2
          have HT := Lib.hid (show isTail z = true by simp [isTail, ht1, ht2])
          clear ht
          go_wp2
          go_round
          case rel => exact .inr ⟨rfl, HT⟩
          case measure => simp [intOf]
        · have HF := Lib.hid (HNO.out ht)
          have hq : z < 128 ∨ (128 ≤ z ∧ 191 < z) := by omega
          clear ht
          rcases hq with hq | ⟨hq, hq2⟩
          all_goals
            go_wp2
            go_ret
            exact ⟨by rw [HF.out]; rfl, rfl⟩
      · have HF := Lib.hid (HYES.out ht.out)
        go_wp2
        go_ret
        exact ⟨by rw [HF.out]; rfl, rfl⟩
  · have h2s : i + 2 < s.size := by omega
    have h3s : i + 3 < s.size := by omega
    have c2 : w.cell? ⟨b, i + 2, none⟩ = some (.int .u8 (bt s (i + 2))) := HB.out (i + 2) h2s
    have c3 : w.cell? ⟨b, i + 2 + 1, none⟩ = some (.int .u8 (bt s (i + 3))) := HB.out (i + 3) h3s
    have hzb := bt_bd s (i + 2)
    have htb := bt_bd s (i + 3)
    obtain ⟨z, hz⟩ : ∃ y, y = bt s (i + 2) := ⟨_, rfl⟩
    obtain ⟨t, ht⟩ : ∃ y, y = bt s (i + 3) := ⟨_, rfl⟩
    rw [← hz] at c2 hzb
    rw [← ht] at c3 htb
    have hz0 := hzb.1
    have hz1 := hzb.2
    have ht0 := htb.1
    have ht1 := htb.2
    have HZ := Lib.hid hz
    have HTT := Lib.hid ht
    have h3I : (i : Int) + 4 ≤ (s.size : Int) := by omega
    have h3c : (i : Int) + 4 ≤ (cp : Int) := by omega
    have h2c : ¬ (i : Int) + 2 = (cp : Int) := by omega
    clear hz hzb ht htb
    have hyes : isTail z = true → isTail t = true → signLen s i = 4 := fun h g => by rw [HSL.out, if_neg HG.out, if_pos ⟨fun _ => by rw [← HZ.out]; exact h, fun _ => by rw [← HTT.out]; exact g⟩]
    have hno : ¬ (128 ≤ z ∧ z ≤ 191) → signLen s i = 0 := fun h => by rw [HSL.out, if_neg HG.out, if_neg (fun g => h (by have := g.1 (by omega); rw [← HZ.out] at this; simpa [isTail] using this))]
    have hno2 : ¬ (128 ≤ t ∧ t ≤ 191) → signLen s i = 0 := fun h => by rw [HSL.out, if_neg HG.out, if_neg (fun g => h (by have := g.2 (by omega); rw [← HTT.out] at this; simpa [isTail] using this))]
    have HYES := Lib.hid hyes
    have HNO := Lib.hid hno
    have HNO2 := Lib.hid hno2
    clear hyes hno hno2
    go_wp2
    go_loop [79] (fun v => v = .int .i64 0 ∨ (v = .int .i64 1 ∧ Hid (isTail z = true)) ∨ (v = .int .i64 2 ∧ Hid (isTail z = true) ∧ Hid (isTail t = true))) (fun v => (2 - intOf v).toNat)
    case atStart => exact .inl rfl
    case round =>
      rcases hrel with rfl | ⟨rfl, h1'⟩ | ⟨rfl, h1', h2'⟩
      · by_cases ht : 128 ≤ z ∧ z ≤ 191
        · have ht1' := ht.1
          have ht2' := ht.2
          have HT := Lib.hid (show isTail z = true by simp [isTail, ht1', ht2'])
          clear ht
          go_wp2
          go_round
          case rel => exact .inr (.inl ⟨rfl, HT⟩)
          case measure => simp [intOf]
        · have HF := Lib.hid (HNO.out ht)
          have hq : z < 128 ∨ (128 ≤ z ∧ 191 < z) := by omega
          clear ht
          rcases hq with hq | ⟨hq, hq2⟩
          all_goals
            go_wp2
            go_ret
            exact ⟨by rw [HF.out]; rfl, rfl⟩
      · by_cases ht : 128 ≤ t ∧ t ≤ 191
        · have ht1' := ht.1
          have ht2' := ht.2
          have HT := Lib.hid (show isTail t = true by simp [isTail, ht1', ht2'])
          clear ht
          go_wp2
          go_round
          case rel => exact .inr (.inr ⟨rfl, h1', HT⟩)
          case measure => simp [intOf]
        · have HF := Lib.hid (HNO2.out ht)
          have hq : t < 128 ∨ (128 ≤ t ∧ 191 < t) := by omega
          clear ht
          rcases hq with hq | ⟨hq, hq2⟩
          all_goals
            go_wp2
            go_ret
            exact ⟨by rw [HF.out]; rfl, rfl⟩
      · have HF := Lib.hid (HYES.out h1'.out h2'.out)
        go_wp2
        go_ret
        exact ⟨by rw [HF.out]; rfl, rfl⟩

/-- where a text first isn't UTF-8; -1 -/
def utfBad (s : ByteArray) : Nat → Nat → Int
  | 0, _ => -1
  | n + 1, i => if i < s.size then (if signLen s i = 0 then (i : Int) else utfBad s n (i + (signLen s i).toNat)) else -1
def utf8Bad (s : ByteArray) : Int := utfBad s s.size 0

theorem signLen_bd (s : ByteArray) (i : Nat) (h : i < s.size) : signLen s i = 0 ∨ (1 ≤ signLen s i ∧ (i : Int) + signLen s i ≤ s.size) := by
  unfold signLen
  split
  · exact .inr ⟨by omega, by omega⟩
  · split
    · exact .inl rfl
    · rename_i h1 h2
      split
      · exact .inl rfl
      · rename_i h3
        split
        · refine .inr ⟨?_, by omega⟩
          unfold leadN at h2 ⊢
          split
          · omega
          · split
            · omega
            · split
              · omega
              · rename_i g1 g2 g3; rw [if_neg g1, if_neg g2, if_neg g3] at h2; exact absurd rfl h2
        · exact .inl rfl
theorem utfBad_fuel (s : ByteArray) : ∀ (n m i : Nat), s.size - i ≤ n → s.size - i ≤ m → utfBad s n i = utfBad s m i := by
  intro n
  induction n with
  | zero =>
    intro m i h1 h2
    cases m with
    | zero => rfl
    | succ m => simp only [utfBad]; rw [if_neg (by omega)]
  | succ n ih =>
    intro m i h1 h2
    cases m with
    | zero => simp only [utfBad]; rw [if_neg (by omega)]
    | succ m =>
      simp only [utfBad]
      by_cases h : i < s.size
      · rw [if_pos h, if_pos h]
        by_cases h0 : signLen s i = 0
        · rw [if_pos h0, if_pos h0]
        · rw [if_neg h0, if_neg h0]
          have := signLen_bd s i h
          exact ih m _ (by omega) (by omega)
      · rw [if_neg h, if_neg h]
theorem utfBad_step (s : ByteArray) (i : Nat) (h : i < s.size) (h0 : ¬ signLen s i = 0) : utfBad s s.size i = utfBad s s.size (i + (signLen s i).toNat) := by
  have e : utfBad s s.size i = utfBad s (s.size + 1) i := utfBad_fuel s _ _ i (by omega) (by omega)
  rw [e]; simp only [utfBad]; rw [if_pos h, if_neg h0]
theorem utfBad_stop (s : ByteArray) (i : Nat) (h : i < s.size) (h0 : signLen s i = 0) : utfBad s s.size i = i := by
  have e : utfBad s s.size i = utfBad s (s.size + 1) i := utfBad_fuel s _ _ i (by omega) (by omega)
  rw [e]; simp only [utfBad]; rw [if_pos h, if_pos h0]
theorem utfBad_end (s : ByteArray) (i : Nat) (h : ¬ i < s.size) : utfBad s s.size i = -1 := by
  have e : utfBad s s.size i = utfBad s (s.size + 1) i := utfBad_fuel s _ _ i (by omega) (by omega)
  rw [e]; simp only [utfBad]; rw [if_neg h]

set_option maxHeartbeats 1000000 in
theorem wireUtf8_calls (b cp : Nat) (s : ByteArray) (hs : s.size ≤ 100000) (hcp : s.size ≤ cp) (w : World) (hb : BytesAt w b s) :
    Calls Tryd.prog 113 #[.slice (some ⟨b, 0, none⟩) s.size cp] w fun e w' => e = .returned (.int .i64 (utf8Bad s)) ∧ w = w' := by
  have HB := Lib.hid hb
  clear hb
  go_enter Tryd.func113, Tryd.ntmps113
  go_wp2
  go_loop [3] (fun v => ∃ i : Nat, i ≤ s.size ∧ v = .int .i64 i ∧ Hid (utf8Bad s = utfBad s s.size i)) (fun v => s.size - (intOf v).toNat)
  case atStart => exact ⟨0, by omega, rfl, rfl⟩
  case round =>
    obtain ⟨i, hi, rfl, hu⟩ := hrel
    by_cases h : i < s.size
    · have hbd := signLen_bd s i h
      have hcal := wireSign_calls b cp s i hs hcp h w HB.out
      have hiI : (i : Int) < (s.size : Int) := by omega
      obtain ⟨n, hn⟩ : ∃ n, n = signLen s i := ⟨_, rfl⟩
      rw [← hn] at hcal hbd
      have HN := Lib.hid hn
      clear hn
      by_cases h0 : n = 0
      · have hq : (n == 0) = true := by rw [beq_iff_eq]; exact h0
        have hfin : utf8Bad s = i := by rw [hu.out]; exact utfBad_stop s i h (by rw [← HN.out]; exact h0)
        have HF := Lib.hid hfin
        clear h0 hfin hbd
        go_wp2_with fail
        refine hcal.mono ?_
        rintro e w' ⟨rfl, rfl⟩
        go_wp2
        go_ret
        exact ⟨by rw [HF.out]; rfl, rfl⟩
      · have hq : (n == 0) = false := by rw [beq_eq_false_iff_ne]; exact h0
        have hn1 : 1 ≤ n := by omega
        have hn2 : (i : Int) + n ≤ s.size := by omega
        have hst : utfBad s s.size i = utfBad s s.size (i + n.toNat) := by rw [HN.out]; exact utfBad_step s i h (by rw [← HN.out]; exact h0)
        have HST := Lib.hid hst
        clear h0 hbd hst
        go_wp2_with fail
        refine hcal.mono ?_
        rintro e w' ⟨rfl, rfl⟩
        go_wp2
        go_round
        case rel => exact ⟨i + n.toNat, by omega, congrArg _ (by push_cast; omega), hu.out.trans HST.out⟩
        case measure => simp [intOf]; omega
    · have hfin : utf8Bad s = -1 := by rw [hu.out]; exact utfBad_end s i h
      have HF := Lib.hid hfin
      clear hfin
      go_wp2
      go_ret
      exact ⟨by rw [HF.out]; rfl, rfl⟩

end Go.Proofs.YtejpjclbeogajaaDoor
