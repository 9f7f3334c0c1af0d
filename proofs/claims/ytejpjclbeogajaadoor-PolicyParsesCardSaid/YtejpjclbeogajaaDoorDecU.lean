/-
  Go's decoder of one rune against the length of a sign; the document's Utf8 and Text (seats whose cards tie utf8's two tables).
-/
import Derived.Test.YtejpjclbeogajaaDoorRefG
import Derived.Test.YtejpjclbeogajaaDoorUtf
import Derived.Test.YtejpjclbeogajaaDoorShelf7
import Derived.Lib.DecodeN
import Derived.Shelf.Spec.DecodeRune
namespace Go.Proofs.YtejpjclbeogajaaDoor
open Go.RowKit
set_option linter.unusedVariables false
set_option linter.unusedSimpArgs false

/-- a sign's length, over numbers -/
def signN (n b0 b1 b2 b3 : Nat) : Nat :=
  if b0 < 128 then 1 else if b0 < 194 ∨ 244 < b0 then 0
  else if b0 < 224 then (if n < 2 ∨ b1 < 128 ∨ 191 < b1 then 0 else 2)
  else if b0 < 240 then (if n < 3 ∨ b1 < (if b0 = 224 then 160 else 128) ∨ (if b0 = 237 then 159 else 191) < b1 ∨ b2 < 128 ∨ 191 < b2 then 0 else 3)
  else (if n < 4 ∨ b1 < (if b0 = 240 then 144 else 128) ∨ (if b0 = 244 then 143 else 191) < b1 ∨ b2 < 128 ∨ 191 < b2 ∨ b3 < 128 ∨ 191 < b3 then 0 else 4)

set_option maxHeartbeats 4000000 in
set_option maxRecDepth 100000 in
theorem dec_sign (n b0 b1 b2 b3 : Nat) (hn : 1 ≤ n) (h0 : b0 < 256) (h1 : b1 < 256) (h2 : b2 < 256) (h3 : b3 < 256) :
    (signN n b0 b1 b2 b3 = 0 ∧ Lib.decodeN n b0 b1 b2 b3 = (65533, 1)) ∨ (1 ≤ signN n b0 b1 b2 b3 ∧ (Lib.decodeN n b0 b1 b2 b3).2 = signN n b0 b1 b2 b3 ∧ (signN n b0 b1 b2 b3 = 1 → (Lib.decodeN n b0 b1 b2 b3).1 < 128)) := by
  unfold signN
  by_cases a : b0 < 128
  · rw [if_pos a]
    refine .inr ⟨by omega, ?_, fun _ => ?_⟩
    · unfold Lib.decodeN; rw [if_pos a]
    · unfold Lib.decodeN; rw [if_pos a]; exact a
  rw [if_neg a]
  by_cases b : b0 < 194 ∨ 244 < b0
  · rw [if_pos b]
    refine .inl ⟨rfl, ?_⟩
    unfold Lib.decodeN
    repeat' split
    all_goals first | rfl | (exfalso; omega)
  rw [if_neg b]
  by_cases c : b0 < 224
  · rw [if_pos c, ← Lib.slow_C2 n b0 b1 b2 b3 hn h1 h2 h3 (by omega)]
    unfold Lib.slowN
    repeat' split
    all_goals first | (exfalso; omega) | exact .inl ⟨rfl, rfl⟩ | exact .inr ⟨by omega, rfl, fun h => by omega⟩
  rw [if_neg c]
  by_cases d : b0 < 240
  · rw [if_pos d]
    by_cases e : b0 = 224
    · rw [if_pos e, if_neg (show ¬ b0 = 237 by omega), ← Lib.slow_E0 n b0 b1 b2 b3 hn h1 h2 h3 e]
      unfold Lib.slowN
      repeat' split
      all_goals first | (exfalso; omega) | exact .inl ⟨rfl, rfl⟩ | exact .inr ⟨by omega, rfl, fun h => by omega⟩
    · by_cases f : b0 = 237
      · rw [if_neg e, if_pos f, ← Lib.slow_ED n b0 b1 b2 b3 hn h1 h2 h3 f]
        unfold Lib.slowN
        repeat' split
        all_goals first | (exfalso; omega) | exact .inl ⟨rfl, rfl⟩ | exact .inr ⟨by omega, rfl, fun h => by omega⟩
      · rw [if_neg e, if_neg f, ← Lib.slow_E1 n b0 b1 b2 b3 hn h1 h2 h3 (by omega)]
        unfold Lib.slowN
        repeat' split
        all_goals first | (exfalso; omega) | exact .inl ⟨rfl, rfl⟩ | exact .inr ⟨by omega, rfl, fun h => by omega⟩
  · rw [if_neg d]
    by_cases e : b0 = 240
    · rw [if_pos e, if_neg (show ¬ b0 = 244 by omega), ← Lib.slow_F0 n b0 b1 b2 b3 hn h1 h2 h3 e]
      unfold Lib.slowN
      repeat' split
      all_goals first | (exfalso; omega) | exact .inl ⟨rfl, rfl⟩ | exact .inr ⟨by omega, rfl, fun h => by omega⟩
    · by_cases f : b0 = 244
      · rw [if_neg e, if_pos f, ← Lib.slow_F4 n b0 b1 b2 b3 hn h1 h2 h3 f]
        unfold Lib.slowN
        repeat' split
        all_goals first | (exfalso; omega) | exact .inl ⟨rfl, rfl⟩ | exact .inr ⟨by omega, rfl, fun h => by omega⟩
      · rw [if_neg e, if_neg f, ← Lib.slow_F1 n b0 b1 b2 b3 hn h1 h2 h3 (by omega)]
        unfold Lib.slowN
        repeat' split
        all_goals first | (exfalso; omega) | exact .inl ⟨rfl, rfl⟩ | exact .inr ⟨by omega, rfl, fun h => by omega⟩

theorem bt_get (s : ByteArray) (i : Nat) : ((s.get! i).toNat : Int) = bt s i := by
  unfold bt
  split
  · rename_i h; simp [ByteArray.get!, h]; rfl
  · rename_i h; simp [ByteArray.get!, h]; rfl

/-- the same over integers, with the lead byte's three words known -/
def signI (L lo hi n b1 b2 b3 : Int) : Int :=
  if L = 0 then 0 else if n < L ∨ b1 < lo ∨ hi < b1 then 0 else if (2 < L → isTail b2 = true) ∧ (3 < L → isTail b3 = true) then L else 0
theorem signI_2 (lo hi n b1 b2 b3 : Int) : signI 2 lo hi n b1 b2 b3 = if n < 2 ∨ b1 < lo ∨ hi < b1 then 0 else 2 := by
  unfold signI; rw [if_neg (by omega)]; split
  · rfl
  · rw [if_pos ⟨fun h => by omega, fun h => by omega⟩]
theorem signI_3 (lo hi n b1 b2 b3 : Int) : signI 3 lo hi n b1 b2 b3 = if n < 3 ∨ b1 < lo ∨ hi < b1 ∨ b2 < 128 ∨ 191 < b2 then 0 else 3 := by
  unfold signI; rw [if_neg (by omega)]
  by_cases h : n < 3 ∨ b1 < lo ∨ hi < b1
  · rw [if_pos h, if_pos (by omega)]
  · rw [if_neg h]
    by_cases ht : isTail b2 = true
    · rw [if_pos ⟨fun _ => ht, fun h => by omega⟩]
      simp only [isTail, Bool.and_eq_true, decide_eq_true_eq] at ht
      rw [if_neg (by omega)]
    · rw [if_neg (fun h => ht (h.1 (by omega)))]
      simp only [isTail, Bool.and_eq_true, decide_eq_true_eq] at ht
      rw [if_pos (by omega)]
theorem signI_4 (lo hi n b1 b2 b3 : Int) : signI 4 lo hi n b1 b2 b3 = if n < 4 ∨ b1 < lo ∨ hi < b1 ∨ b2 < 128 ∨ 191 < b2 ∨ b3 < 128 ∨ 191 < b3 then 0 else 4 := by
  unfold signI; rw [if_neg (by omega)]
  by_cases h : n < 4 ∨ b1 < lo ∨ hi < b1
  · rw [if_pos h, if_pos (by omega)]
  · rw [if_neg h]
    by_cases ht : isTail b2 = true ∧ isTail b3 = true
    · rw [if_pos ⟨fun _ => ht.1, fun _ => ht.2⟩]
      simp only [isTail, Bool.and_eq_true, decide_eq_true_eq] at ht
      rw [if_neg (by omega)]
    · rw [if_neg (fun h => ht ⟨h.1 (by omega), h.2 (by omega)⟩)]
      simp only [isTail, Bool.and_eq_true, decide_eq_true_eq] at ht
      rw [if_pos (by omega)]

set_option maxHeartbeats 1000000 in
theorem signLen_N (s : ByteArray) (i : Nat) (hi : i < s.size) : signLen s i = (signN (s.size - i) (bt s i).toNat (bt s (i + 1)).toNat (bt s (i + 2)).toNat (bt s (i + 3)).toNat : Nat) := by
  have h0 := bt_bd s i
  have h1 := bt_bd s (i + 1)
  have h2 := bt_bd s (i + 2)
  have h3 := bt_bd s (i + 3)
  have e : signLen s i = if bt s i < 128 then 1 else signI (leadN (bt s i)) (leadLo (bt s i)) (leadHi (bt s i)) ((s.size : Int) - i) (bt s (i + 1)) (bt s (i + 2)) (bt s (i + 3)) := rfl
  rw [e]
  clear e
  generalize bt s i = b0 at *
  generalize bt s (i + 1) = b1 at *
  generalize bt s (i + 2) = b2 at *
  generalize bt s (i + 3) = b3 at *
  obtain ⟨n, hn⟩ : ∃ n, n = s.size - i := ⟨_, rfl⟩
  have hnI : (s.size : Int) - i = n := by omega
  rw [hnI, ← hn]
  clear hnI hn hi
  unfold signN
  by_cases a : b0 < 128
  · rw [if_pos a, if_pos (by omega)]; rfl
  rw [if_neg a, if_neg (show ¬ b0.toNat < 128 by omega)]
  by_cases b : b0 < 194 ∨ 244 < b0
  · rw [if_pos (show b0.toNat < 194 ∨ 244 < b0.toNat by omega)]
    have hL : leadN b0 = 0 := by unfold leadN; rw [if_neg (by omega), if_neg (by omega), if_neg (by omega)]
    rw [hL, signI, if_pos rfl]; rfl
  rw [if_neg (show ¬ (b0.toNat < 194 ∨ 244 < b0.toNat) by omega)]
  by_cases c : b0 < 224
  · have hL : leadN b0 = 2 := by unfold leadN; rw [if_pos (by omega)]
    have hlo : leadLo b0 = 128 := by unfold leadLo; rw [if_neg (by omega), if_neg (by omega)]
    have hhi : leadHi b0 = 191 := by unfold leadHi; rw [if_neg (by omega), if_neg (by omega)]
    rw [if_pos (show b0.toNat < 224 by omega), hL, hlo, hhi, signI_2]
    by_cases h : (n : Int) < 2 ∨ b1 < 128 ∨ 191 < b1
    · rw [if_pos h, if_pos (by omega)]; rfl
    · rw [if_neg h, if_neg (by omega)]; rfl
  rw [if_neg (show ¬ b0.toNat < 224 by omega)]
  by_cases d : b0 < 240
  · have hL : leadN b0 = 3 := by unfold leadN; rw [if_neg (by omega), if_pos (by omega)]
    have hlo : leadLo b0 = ((if b0.toNat = 224 then 160 else 128 : Nat) : Int) := by
      unfold leadLo
      by_cases e : b0 = 224
      · rw [if_pos e, if_pos (by omega)]; rfl
      · rw [if_neg e, if_neg (by omega), if_neg (by omega)]; rfl
    have hhi : leadHi b0 = ((if b0.toNat = 237 then 159 else 191 : Nat) : Int) := by
      unfold leadHi
      by_cases e : b0 = 237
      · rw [if_pos e, if_pos (by omega)]; rfl
      · rw [if_neg e, if_neg (by omega), if_neg (by omega)]; rfl
    rw [if_pos (show b0.toNat < 240 by omega), hL, hlo, hhi, signI_3]
    generalize (if b0.toNat = 224 then 160 else 128 : Nat) = lo
    generalize (if b0.toNat = 237 then 159 else 191 : Nat) = hh
    by_cases h : (n : Int) < 3 ∨ b1 < lo ∨ hh < b1 ∨ b2 < 128 ∨ 191 < b2
    · rw [if_pos h, if_pos (by omega)]; rfl
    · rw [if_neg h, if_neg (by omega)]; rfl
  · have hL : leadN b0 = 4 := by unfold leadN; rw [if_neg (by omega), if_neg (by omega), if_pos (by omega)]
    have hlo : leadLo b0 = ((if b0.toNat = 240 then 144 else 128 : Nat) : Int) := by
      unfold leadLo
      by_cases e : b0 = 240
      · rw [if_neg (by omega), if_pos e, if_pos (by omega)]; rfl
      · rw [if_neg (by omega), if_neg e, if_neg (by omega)]; rfl
    have hhi : leadHi b0 = ((if b0.toNat = 244 then 143 else 191 : Nat) : Int) := by
      unfold leadHi
      by_cases e : b0 = 244
      · rw [if_neg (by omega), if_pos e, if_pos (by omega)]; rfl
      · rw [if_neg (by omega), if_neg e, if_neg (by omega)]; rfl
    rw [if_neg (show ¬ b0.toNat < 240 by omega), hL, hlo, hhi, signI_4]
    generalize (if b0.toNat = 240 then 144 else 128 : Nat) = lo
    generalize (if b0.toNat = 244 then 143 else 191 : Nat) = hh
    by_cases h : (n : Int) < 4 ∨ b1 < lo ∨ hh < b1 ∨ b2 < 128 ∨ 191 < b2 ∨ b3 < 128 ∨ 191 < b3
    · rw [if_pos h, if_pos (by omega)]; rfl
    · rw [if_neg h, if_neg (by omega)]; rfl

end Go.Proofs.YtejpjclbeogajaaDoor
