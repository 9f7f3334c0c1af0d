/-
  Parts: PfG, Pftransomref16isSign, Pftransomref16isLabel, Pftransomref16Names, Pftransomref16Find, Pftransomref16Way, Pftransomref16Policy.
-/
import Derived.Test.YtejpjclbeogajaaDoorPkKdP
import Derived.Test.YtejpjclbeogajaaDoorPkTokRow
import Derived.Test.YtejpjclbeogajaaDoorLexN
import Derived.Test.YtejpjclbeogajaaDoorPfKinds

/-
  Functions that are given to the printed ones: the document's Tokens, mask.Find, lex.Number.
-/
namespace Go.Proofs.YtejpjclbeogajaaDoorP.Pf
open Go.RowKit
open Go.Proofs.YtejpjclbeogajaaDoor
open Go.Proofs.YtejpjclbeogajaaDoorW.PrintWords (Kd)
set_option linter.unusedVariables false
set_option linter.unusedSimpArgs false

/-- tokens, or a fault, as the document hands them back -/
def tokOut (o : Except (Int × Nat) (List Tok)) : List S103 × Int × Int := match o with | .error (c, p) => ([], c, (p : Int)) | .ok l => (l.map tT, 0, 0)
def transomref03_Tokens.f (a0 a1 : ByteArray) : Option (List S103 × Int × Int) := if a0.size ≤ 140737488351232 ∧ a1.size ≤ 100000 then some (tokOut (toks a0 a1)) else none
theorem transomref03_Tokens.calls (a0 a1 : ByteArray) (r1 : List S103) (r2 r3 : Int) (w : World) (hT : Tabs w) (h : transomref03_Tokens.f a0 a1 = some (r1, r2, r3)) :
    Calls Tryd.prog 15 #[.string a0, .string a1] w fun e w' => ∃ v0_ : Value, e = .returned (.tuple #[v0_, .int .i64 r2, .int .i64 r3]) ∧ Kd.R k103 103 w' w.heap.size (fun _ => True) v0_ r1 ∧ Below w.heap.size w w' := by
  unfold transomref03_Tokens.f at h
  split at h
  · rename_i hb
    have h2 := Option.some.inj h
    refine (refTokens_calls a0 a1 w hT hb.1 hb.2).mono fun e w' hp => ?_
    obtain ⟨hB, hm⟩ := hp
    cases ht : toks a0 a1 with
    | error x =>
      obtain ⟨c, p⟩ := x
      rw [ht] at hm h2
      cases h2
      exact ⟨_, hm, Kd.R_nil _ _ _ _ _, hB⟩
    | ok l =>
      rw [ht] at hm h2
      cases h2
      obtain ⟨v, he, ho⟩ := hm
      exact ⟨v, he, toks_R ho, hB⟩
  · cases h

def mask_Find.f (l0 : List S82) (l1 : List S85) (a : Int) (a1 : Int) (a2 : ByteArray) : Option (Int × Bool) :=
  if 0 ≤ a1 ∧ a1 < (l0.length : Int) then some (ixZ (findI (l0.getD a1.toNat z82).f1 a2), (findI (l0.getD a1.toNat z82).f1 a2).isSome) else none
theorem mask_Find.calls (A0_0 : Option Addr) (c0_0 : Nat) (l0_0 : List S82) (A0_1 : Option Addr) (c0_1 : Nat) (l0_1 : List S85) (a0_2 : Int) (a1 : Int) (a2 : ByteArray) (r1 : Int) (r2 : Bool) (w : World)
    (hr0_0 : Kd.C k82 w A0_0 l0_0.length l0_0) (hc0_0 : l0_0.length ≤ c0_0) (hr0_1 : Kd.C k85 w A0_1 l0_1.length l0_1) (hc0_1 : l0_1.length ≤ c0_1) (h : mask_Find.f l0_0 l0_1 a0_2 a1 a2 = some (r1, r2)) :
    Calls Tryd.prog 74 #[.agg #[.slice A0_0 l0_0.length c0_0, .slice A0_1 l0_1.length c0_1, .int .i64 a0_2], .int .i64 a1, .string a2] w fun e w' => e = .returned (.tuple #[.int .i64 r1, .bool r2]) ∧ Below w.heap.size w w' := by
  unfold mask_Find.f at h
  split at h
  · rename_i hb
    obtain ⟨rec, rfl⟩ := Int.eq_ofNat_of_zero_le hb.1
    have h2 := Option.some.inj h
    simp only [Prod.mk.injEq] at h2
    obtain ⟨rfl, rfl⟩ := h2
    exact find_calls A0_0 c0_0 l0_0 A0_1 c0_1 l0_1 a0_2 rec a2 w hr0_0 (by omega)
  · cases h

def lex_Number.f (a0 : ByteArray) (a1 : Int) (a2 : Bool) : Option (Int × Bool) := if a0.size ≤ 100000 then some ((numOf a0 a1 a2).getD 0, (numOf a0 a1 a2).isSome) else none
theorem lex_Number.calls (a0 : ByteArray) (a1 : Int) (a2 : Bool) (r1 : Int) (r2 : Bool) (w : World) (h : lex_Number.f a0 a1 a2 = some (r1, r2)) :
    Calls Tryd.prog 77 #[.string a0, .int .i64 a1, .bool a2] w fun e w' => e = .returned (.tuple #[.int .u64 r1, .bool r2]) ∧ Below w.heap.size w w' := by
  unfold lex_Number.f at h
  split at h
  · rename_i hb
    have h2 := Option.some.inj h
    simp only [Prod.mk.injEq] at h2
    obtain ⟨rfl, rfl⟩ := h2
    refine (lexNumber_calls a0 a1 a2 w hb).mono fun e w' ⟨he, hB⟩ => ⟨?_, hB⟩
    rw [he]
    cases numOf a0 a1 a2 <;> rfl
  · cases h

end Go.Proofs.YtejpjclbeogajaaDoorP.Pf

-- laid by a program (wip/printf.sh): functions of the program as plain Lean functions, with their contracts
namespace Go.Proofs.YtejpjclbeogajaaDoorP.Pf
open Go.RowKit Go.Proofs.YtejpjclbeogajaaDoorW.PrintWords Go.Proofs.YtejpjclbeogajaaDoorW.PrintLast Go.Proofs.YtejpjclbeogajaaDoor.PwG
set_option linter.unusedVariables false
set_option linter.unusedSimpArgs false

/-! ### transomref16_isSign: function 37 -/
def transomref16_isSign.f (l0 : List (S103)) (a1 : Int) (a2 : ByteArray) : Option (Bool) := if a1 < (l0.length : Int) then (if 0 ≤ a1 then (if ((rd_T103 l0 a1).f0) = 4 then (some (((rd_T103 l0 a1).f1).toList == a2.toList)) else (some false)) else (none)) else (some false)
set_option maxHeartbeats 8000000 in
set_option maxRecDepth 100000 in
theorem transomref16_isSign.calls (A0 : Option Addr) (c0 : Nat) (l0 : List (S103)) (a1 : Int) (a2 : ByteArray) (r : Bool) (w : World) (hr0 : Kd.C k103 w A0 l0.length l0) (hc0 : l0.length ≤ c0) (h : transomref16_isSign.f l0 a1 a2 = some r) :
    Calls Tryd.prog 37 #[.slice A0 l0.length c0, .int .i64 a1, .string a2] w fun e w' => e = .returned (.bool r) ∧ Drawn0 w w' := by
  have HR0 := Aside0.mk hr0
  have HC0 := Aside0.mk hc0
  clear hr0 hc0
  have H : (if a1 < (l0.length : Int) then (if 0 ≤ a1 then (if ((rd_T103 l0 a1).f0) = 4 then (some (((rd_T103 l0 a1).f1).toList == a2.toList)) else (some false)) else (none)) else (some false)) = some r := h
  clear h
  by_cases c4 : a1 < (l0.length : Int)
  · rw [if_pos c4] at H
    have c4b0 : decide (a1 < (l0.length : Int)) = true := decide_eq_true c4
    clear c4
    by_cases c5 : 0 ≤ a1
    · rw [if_pos c5] at H
      have c5b0 : decide (0 ≤ a1) = true := decide_eq_true c5
      clear c5
      by_cases c6 : ((rd_T103 l0 a1).f0) = 4
      · rw [if_pos c6] at H
        have c6b0 : (((rd_T103 l0 a1).f0) == 4) = true := beq_iff_eq.mpr c6
        have c6b1 : (((rd_T103 l0 a1).f0) != 4) = false := bne_eq_false_iff_eq.mpr c6
        clear c6
        obtain rfl := Option.some.inj H
        have p101 : 0 ≤ (a1 : Int) := of_decide_eq_true (by first | (with_reducible assumption) | assumption)
        have q101 : a1 < (l0.length : Int) := of_decide_eq_true (by first | (with_reducible assumption) | assumption)
        obtain ⟨ad101, e101, hx101_0, hx101_1, hx101_2⟩ := at_T103 HR0.out a1 p101 q101
        cases e101
        replace p101 := eq_true p101
        replace q101 := eq_true q101
        have p102 : 0 ≤ (a1 : Int) := of_decide_eq_true (by first | (with_reducible assumption) | assumption)
        have q102 : a1 < (l0.length : Int) := of_decide_eq_true (by first | (with_reducible assumption) | assumption)
        obtain ⟨ad102, e102, hx102_0, hx102_1, hx102_2⟩ := at_T103 HR0.out a1 p102 q102
        obtain rfl : ad101 = ad102 := (by injection e102)
        replace p102 := eq_true p102
        replace q102 := eq_true q102
        go_enter Tryd.func37, Tryd.ntmps37
        go_wp2
        go_ret
        exact ⟨by first | rfl | (simp; done) | (simp [*]; done), by repeat (first | exact Drawn0.refl _ | apply Drawn0.step)⟩
      · rw [if_neg c6] at H
        have c6b0 : (((rd_T103 l0 a1).f0) == 4) = false := beq_eq_false_iff_ne.mpr c6
        have c6b1 : (((rd_T103 l0 a1).f0) != 4) = true := bne_iff_ne.mpr c6
        obtain rfl := Option.some.inj H
        have p101 : 0 ≤ (a1 : Int) := of_decide_eq_true (by first | (with_reducible assumption) | assumption)
        have q101 : a1 < (l0.length : Int) := of_decide_eq_true (by first | (with_reducible assumption) | assumption)
        obtain ⟨ad101, e101, hx101_0, hx101_1, hx101_2⟩ := at_T103 HR0.out a1 p101 q101
        cases e101
        replace p101 := eq_true p101
        replace q101 := eq_true q101
        go_enter Tryd.func37, Tryd.ntmps37
        go_wp2
        go_ret
        exact ⟨by first | rfl | (simp; done) | (simp [*]; done), by repeat (first | exact Drawn0.refl _ | apply Drawn0.step)⟩
    · rw [if_neg c5] at H
      exact absurd H (by simp)
  · rw [if_neg c4] at H
    have c4b0 : decide (a1 < (l0.length : Int)) = false := decide_eq_false c4
    clear c4
    obtain rfl := Option.some.inj H
    go_enter Tryd.func37, Tryd.ntmps37
    go_wp2
    go_ret
    exact ⟨by first | rfl | (simp; done) | (simp [*]; done), by repeat (first | exact Drawn0.refl _ | apply Drawn0.step)⟩

end Go.Proofs.YtejpjclbeogajaaDoorP.Pf

-- laid by a program (wip/printf.sh): functions of the program as plain Lean functions, with their contracts
namespace Go.Proofs.YtejpjclbeogajaaDoorP.Pf
open Go.RowKit Go.Proofs.YtejpjclbeogajaaDoorW.PrintWords Go.Proofs.YtejpjclbeogajaaDoorW.PrintLast Go.Proofs.YtejpjclbeogajaaDoor.PwG
set_option linter.unusedVariables false
set_option linter.unusedSimpArgs false

/-! ### transomref16_isLabel: function 43 -/
def transomref16_isLabel.f (l0 : List (S103)) (a1 : Int) : Option (Bool) := if a1 < (l0.length : Int) then (if 0 ≤ a1 then (if ((rd_T103 l0 a1).f0) = 1 then (some true) else (some (((rd_T103 l0 a1).f0) == 3))) else (none)) else (some false)
set_option maxHeartbeats 8000000 in
set_option maxRecDepth 100000 in
theorem transomref16_isLabel.calls (A0 : Option Addr) (c0 : Nat) (l0 : List (S103)) (a1 : Int) (r : Bool) (w : World) (hr0 : Kd.C k103 w A0 l0.length l0) (hc0 : l0.length ≤ c0) (h : transomref16_isLabel.f l0 a1 = some r) :
    Calls Tryd.prog 43 #[.slice A0 l0.length c0, .int .i64 a1] w fun e w' => e = .returned (.bool r) ∧ Drawn0 w w' := by
  have HR0 := Aside0.mk hr0
  have HC0 := Aside0.mk hc0
  clear hr0 hc0
  have H : (if a1 < (l0.length : Int) then (if 0 ≤ a1 then (if ((rd_T103 l0 a1).f0) = 1 then (some true) else (some (((rd_T103 l0 a1).f0) == 3))) else (none)) else (some false)) = some r := h
  clear h
  by_cases c3 : a1 < (l0.length : Int)
  · rw [if_pos c3] at H
    have c3b0 : decide (a1 < (l0.length : Int)) = true := decide_eq_true c3
    clear c3
    by_cases c4 : 0 ≤ a1
    · rw [if_pos c4] at H
      have c4b0 : decide (0 ≤ a1) = true := decide_eq_true c4
      clear c4
      by_cases c5 : ((rd_T103 l0 a1).f0) = 1
      · rw [if_pos c5] at H
        have c5b0 : (((rd_T103 l0 a1).f0) == 1) = true := beq_iff_eq.mpr c5
        have c5b1 : (((rd_T103 l0 a1).f0) != 1) = false := bne_eq_false_iff_eq.mpr c5
        clear c5
        obtain rfl := Option.some.inj H
        have p103 : 0 ≤ (a1 : Int) := of_decide_eq_true (by first | (with_reducible assumption) | assumption)
        have q103 : a1 < (l0.length : Int) := of_decide_eq_true (by first | (with_reducible assumption) | assumption)
        obtain ⟨ad103, e103, hx103_0, hx103_1, hx103_2⟩ := at_T103 HR0.out a1 p103 q103
        cases e103
        replace p103 := eq_true p103
        replace q103 := eq_true q103
        go_enter Tryd.func43, Tryd.ntmps43
        go_wp2
        go_ret
        exact ⟨by first | rfl | (simp; done) | (simp [*]; done), by repeat (first | exact Drawn0.refl _ | apply Drawn0.step)⟩
      · rw [if_neg c5] at H
        have c5b0 : (((rd_T103 l0 a1).f0) == 1) = false := beq_eq_false_iff_ne.mpr c5
        have c5b1 : (((rd_T103 l0 a1).f0) != 1) = true := bne_iff_ne.mpr c5
        obtain rfl := Option.some.inj H
        have p103 : 0 ≤ (a1 : Int) := of_decide_eq_true (by first | (with_reducible assumption) | assumption)
        have q103 : a1 < (l0.length : Int) := of_decide_eq_true (by first | (with_reducible assumption) | assumption)
        obtain ⟨ad103, e103, hx103_0, hx103_1, hx103_2⟩ := at_T103 HR0.out a1 p103 q103
        cases e103
        replace p103 := eq_true p103
        replace q103 := eq_true q103
        have p104 : 0 ≤ (a1 : Int) := of_decide_eq_true (by first | (with_reducible assumption) | assumption)
        have q104 : a1 < (l0.length : Int) := of_decide_eq_true (by first | (with_reducible assumption) | assumption)
        obtain ⟨ad104, e104, hx104_0, hx104_1, hx104_2⟩ := at_T103 HR0.out a1 p104 q104
        obtain rfl : ad103 = ad104 := (by injection e104)
        replace p104 := eq_true p104
        replace q104 := eq_true q104
        go_enter Tryd.func43, Tryd.ntmps43
        go_wp2
        go_ret
        exact ⟨by first | rfl | (simp; done) | (simp [*]; done), by repeat (first | exact Drawn0.refl _ | apply Drawn0.step)⟩
    · rw [if_neg c4] at H
      exact absurd H (by simp)
  · rw [if_neg c3] at H
    have c3b0 : decide (a1 < (l0.length : Int)) = false := decide_eq_false c3
    clear c3
    obtain rfl := Option.some.inj H
    go_enter Tryd.func43, Tryd.ntmps43
    go_wp2
    go_ret
    exact ⟨by first | rfl | (simp; done) | (simp [*]; done), by repeat (first | exact Drawn0.refl _ | apply Drawn0.step)⟩

end Go.Proofs.YtejpjclbeogajaaDoorP.Pf

-- laid by a program (wip/printf.sh): functions of the program as plain Lean functions, with their contracts
namespace Go.Proofs.YtejpjclbeogajaaDoorP.Pf
open Go.RowKit Go.Proofs.YtejpjclbeogajaaDoorW.PrintWords Go.Proofs.YtejpjclbeogajaaDoorW.PrintLast Go.Proofs.YtejpjclbeogajaaDoor.PwG
set_option linter.unusedVariables false
set_option linter.unusedSimpArgs false

/-! ### transomref16_Names: function 36 -/
def transomref16_Names.l0 : Nat → List (S103) → Int → List ByteArray → Option (List ByteArray × Int × Bool)
  | 0, _, _, _ => none
  | k + 1, x0, x1, x7 => (transomref16_isLabel.f x0 x1).bind fun t105 => (if t105 = true then (if 0 ≤ x1 then (if x1 < (x0.length : Int) then (if x7.length < 8796093022208 then ((some (x7 ++ [(rd_T103 x0 x1).f1] : List ByteArray)).bind fun y107 => ((transomref16_isSign.f x0 (wrap64 (x1 + 1)) (⟨#[46]⟩ : ByteArray)).bind fun t110 => (if t110 = true then (transomref16_Names.l0 k x0 (wrap64 (x1 + 2)) y107) else (some (y107, wrap64 (x1 + 1), true))))) else (none)) else (none)) else (none)) else (some (([] : List ByteArray), x1, false)))
def transomref16_Names.f (k : Nat) (l0 : List (S103)) (a1 : Int) : Option (List ByteArray × Int × Bool) := transomref16_Names.l0 k l0 a1 ([] : List ByteArray)
theorem transomref16_Names.mono_l : ∀ k, (∀ y0 y1 y2, LeO (transomref16_Names.l0 k y0 y1 y2) (transomref16_Names.l0 (k + 1) y0 y1 y2))
  | 0 => fun _ _ _ r h => by simp [transomref16_Names.l0] at h
  | k + 1 => by
    have ih0 := transomref16_Names.mono_l k
    · intro y0 y1 y2
      unfold transomref16_Names.l0
      repeat' first
      | (with_reducible exact ih0 _ _ _)
      | (with_reducible exact LeO.refl _)
      | (with_reducible exact LeO.none _)
      | (with_reducible refine LeO.ite ?_ ?_)
      | (with_reducible refine LeO.bind ?_ (fun _ => ?_))
      | exact ih0 _ _ _
      | exact LeO.none _
      | refine LeO.ite ?_ ?_
      | refine LeO.bind ?_ (fun _ => ?_)
theorem transomref16_Names.mono : ∀ a0 a1 k, LeO (transomref16_Names.f k a0 a1) (transomref16_Names.f (k + 1) a0 a1) := by
  intro a0 a1 k
  have ih0 := transomref16_Names.mono_l k
  unfold transomref16_Names.f
  repeat' first
      | (with_reducible exact ih0 _ _ _)
      | (with_reducible exact LeO.refl _)
      | (with_reducible exact LeO.none _)
      | (with_reducible refine LeO.ite ?_ ?_)
      | (with_reducible refine LeO.bind ?_ (fun _ => ?_))
      | exact ih0 _ _ _
      | exact LeO.none _
      | refine LeO.ite ?_ ?_
      | refine LeO.bind ?_ (fun _ => ?_)
set_option maxHeartbeats 8000000 in
set_option maxRecDepth 100000 in
theorem transomref16_Names.calls (k : Nat) (A0 : Option Addr) (c0 : Nat) (l0 : List (S103)) (a1 : Int) (r1 : List ByteArray) (r2 : Int) (r3 : Bool) (w : World) (hr0 : Kd.C k103 w A0 l0.length l0) (hc0 : l0.length ≤ c0) (h : transomref16_Names.f k l0 a1 = some (r1, r2, r3)) :
    Calls Tryd.prog 36 #[.slice A0 l0.length c0, .int .i64 a1] w fun e w' => ∃ v0_ : Value, e = .returned (.tuple #[v0_, .int .i64 r2, .bool r3]) ∧ Kd.R Kd.string 9 w' w.heap.size (fun _ => True) v0_ r1 ∧ Below w.heap.size w w' := by
  have HR0 := Aside0.mk hr0
  have HC0 := Aside0.mk hc0
  clear hr0 hc0
  have HB := Aside0.mk (Below.refl w.heap.size w)
  have H : (transomref16_Names.l0 k l0 a1 ([] : List ByteArray)) = some (r1, r2, r3) := h
  clear h
  have H' := Aside0.mk H
  clear H
  go_enter Tryd.func36, Tryd.ntmps36
  go_wp2
  go_loopg [1, 7] k (fun kq v1 v7 w' => ∃ (x1_1 : Int) (x7_1 : List ByteArray), v1 = .int .i64 x1_1 ∧ Aside0 (transomref16_Names.l0 kq l0 x1_1 x7_1 = some (r1, r2, r3)) ∧ Aside0 (kq ≤ k) ∧ Aside0 (Kd.R Kd.string 9 w' w.heap.size (fun _ => True) v7 x7_1) ∧ Aside0 (Below w.heap.size w w'))
  case atStart => exact ⟨(a1), (([] : List ByteArray)), (by first | rfl | (simp; done) | (simp [*]; done)), H', ⟨Nat.le_refl _⟩, ⟨by first | exact Kd.R_nil _ _ _ _ _ | exact Kd.Q_nil _ _ _ _ _ | exact Kd.S_nil _ _ _ _ _⟩, ⟨by repeat (first | (with_reducible first | exact HB.out | apply below_alloc | apply pw_below_drewN | apply below_drew1) | exact HB.out)⟩⟩
  case round =>
    clear H'
    try clear p2
    obtain ⟨x1_1, x7_1, rfl, HA, HK1, HO_7, HB⟩ := hrel
    cases gk with
    | zero => exact absurd HA.out (by simp [transomref16_Names.l0])
    | succ k1 =>
      have H := HA.out
      clear HA
      simp only [transomref16_Names.l0] at H
      replace H := Option.bind_eq_some_iff.mp H
      obtain ⟨t105, A30, H⟩ := H
      replace H : (if t105 = true then (if 0 ≤ x1_1 then (if x1_1 < (l0.length : Int) then (if x7_1.length < 8796093022208 then ((some (x7_1 ++ [(rd_T103 l0 x1_1).f1] : List ByteArray)).bind fun y107 => ((transomref16_isSign.f l0 (wrap64 (x1_1 + 1)) (⟨#[46]⟩ : ByteArray)).bind fun t110 => (if t110 = true then (transomref16_Names.l0 k1 l0 (wrap64 (x1_1 + 2)) y107) else (some (y107, wrap64 (x1_1 + 1), true))))) else (none)) else (none)) else (none)) else (some (([] : List ByteArray), x1_1, false))) = some (r1, r2, r3) := H
      have A3 := Aside0.mk A30
      clear A30
      by_cases c4 : t105 = true
      · subst c4
        have H1 : (if 0 ≤ x1_1 then (if x1_1 < (l0.length : Int) then (if x7_1.length < 8796093022208 then ((some (x7_1 ++ [(rd_T103 l0 x1_1).f1] : List ByteArray)).bind fun y107 => ((transomref16_isSign.f l0 (wrap64 (x1_1 + 1)) (⟨#[46]⟩ : ByteArray)).bind fun t110 => (if t110 = true then (transomref16_Names.l0 k1 l0 (wrap64 (x1_1 + 2)) y107) else (some (y107, wrap64 (x1_1 + 1), true))))) else (none)) else (none)) else (none)) = some (r1, r2, r3) := by rw [if_pos rfl] at H; exact H
        clear H
        have H := H1
        clear H1
        by_cases c5 : 0 ≤ x1_1
        · rw [if_pos c5] at H
          have c5b0 : decide (0 ≤ x1_1) = true := decide_eq_true c5
          clear c5
          by_cases c6 : x1_1 < (l0.length : Int)
          · rw [if_pos c6] at H
            have c6b0 : decide (x1_1 < (l0.length : Int)) = true := decide_eq_true c6
            clear c6
            by_cases c7 : x7_1.length < 8796093022208
            · rw [if_pos c7] at H
              have LMc7 := Aside0.mk c7
              clear c7
              obtain ⟨y107, hy107⟩ : ∃ y_ : List ByteArray, y_ = (x7_1 ++ [(rd_T103 l0 x1_1).f1]) := ⟨_, rfl⟩
              replace H : ((transomref16_isSign.f l0 (wrap64 (x1_1 + 1)) (⟨#[46]⟩ : ByteArray)).bind fun t110 => (if t110 = true then (transomref16_Names.l0 k1 l0 (wrap64 (x1_1 + 2)) y107) else (some (y107, wrap64 (x1_1 + 1), true)))) = some (r1, r2, r3) := by first | (rw [hy107]; with_reducible exact H) | (have H2_ := (Option.bind_some _ _).symm.trans H; rw [hy107]; with_reducible exact H2_) | (have H2_ := (Option.bind_some _ _).symm.trans H; with_reducible exact H2_) | with_reducible exact H | (rw [hy107]; exact H) | exact H
              have Ny107 := Aside0.mk hy107
              clear hy107
              replace H := Option.bind_eq_some_iff.mp H
              obtain ⟨t110, A80, H⟩ := H
              replace H : (if t110 = true then (transomref16_Names.l0 k1 l0 (wrap64 (x1_1 + 2)) y107) else (some (y107, wrap64 (x1_1 + 1), true))) = some (r1, r2, r3) := H
              have A8 := Aside0.mk A80
              clear A80
              by_cases c9 : t110 = true
              · subst c9
                have H1 : (transomref16_Names.l0 k1 l0 (wrap64 (x1_1 + 2)) y107) = some (r1, r2, r3) := by rw [if_pos rfl] at H; exact H
                clear H
                have H := H1
                clear H1
                have H' := Aside0.mk H
                clear H
                go_wp2_with (first | ((with_reducible refine gateF (f := 43) rfl ?_); refine goesL_ (some 10) rfl rfl Tryd.func43 (by kernel_rfl) rfl #[.slice A0 l0.length c0, .int .i64 x1_1] rfl (by (try simp only [List.map_toArray, List.map_cons, List.map_nil]); first | done | rfl | (simp only [List.length_drop, List.length_take]; rfl)) ?_; (with_reducible refine (transomref16_isLabel.calls _ _ l0 x1_1 true _ ?side1 ?side2 A3.out).mono ?_); (case side1 => repeat (first | exact (Kd.C_below HR0.out HB.out) | (with_reducible refine Kd.C_alloc ?_ _) | (with_reducible refine Kd.C_drewN ?_ _) | (with_reducible refine Kd.C_drew ?_))); (case side2 => exact HC0.out); rintro e w' ⟨rfl, ⟨nd, rfl⟩⟩; refine ⟨_, rfl, ?_⟩; have p106 : 0 ≤ (x1_1 : Int) := of_decide_eq_true (by first | (with_reducible assumption) | assumption); have q106 : x1_1 < (l0.length : Int) := of_decide_eq_true (by first | (with_reducible assumption) | assumption); obtain ⟨ad106, e106, hx106_0, hx106_1, hx106_2⟩ := at_T103 HR0.out x1_1 p106 q106; cases e106; replace hx106_0 := (HB.out.cell (World.block_lt_of_cell? w _ hx106_0)).trans hx106_0; replace hx106_1 := (HB.out.cell (World.block_lt_of_cell? w _ hx106_1)).trans hx106_1; replace hx106_2 := (HB.out.cell (World.block_lt_of_cell? w _ hx106_2)).trans hx106_2; replace p106 := eq_true p106; replace q106 := eq_true q106) | ((with_reducible refine gateB (b := .append) (xs := #[.tmp 11, .tmp 17]) rfl ?_); at_builtin; refine Kd.R_append Kd.string (w0 := w) w.heap.size rfl (.tmp 11) (.tmp 17) 83 9 (.string ⟨#[]⟩) 16 rfl Tryd.underlying83 info9 rfl (by decide) (by omega) u7 x7_1 ((rd_T103 l0 x1_1).f1) [.string ((rd_T103 l0 x1_1).f1)] (fun _ => True) (fun _ => False) rfl rfl ?aP (fun _ hk => hk.elim) ?aF ?aO ?aB ?aS ?aL ?_; (case aP => exact rfl); (case aB => exact (by repeat (first | (with_reducible first | exact HB.out | apply below_alloc | apply pw_below_drewN | apply below_drew1) | exact HB.out))); (case aF => exact (fun _ _ => trivial)); (case aO => exact (by (with_reducible repeat (first | apply Kd.R_alloc | apply Kd.R_drewN | apply Kd.R_drew)); exact HO_7.out)); (case aS => exact (below_size (by repeat (first | (with_reducible first | exact HB.out | apply below_alloc | apply pw_below_drewN | apply below_drew1) | exact HB.out)))); (case aL => have := LMc7.out; omega); intro v108 w10 ho hb hg hat; rw [← Ny107.out] at ho; have n0_ := Aside0.mk (hb); have n1_ := Aside0.mk (ho); clear HB; clear HO_7; have HB := n0_; have HO109 := n1_; clear n0_ n1_; clear ho hb hg hat) | ((with_reducible refine gateF (f := 37) rfl ?_); refine goesL_ (some 22) rfl rfl Tryd.func37 (by kernel_rfl) rfl #[.slice (some ad106) l0.length c0, .int .i64 (wrap64 (x1_1 + 1)), .string (⟨#[46]⟩ : ByteArray)] rfl (by (try simp only [List.map_toArray, List.map_cons, List.map_nil]); first | done | rfl | (simp only [List.length_drop, List.length_take]; rfl)) ?_; (with_reducible refine (transomref16_isSign.calls _ _ l0 (wrap64 (x1_1 + 1)) (⟨#[46]⟩ : ByteArray) true _ ?side1 ?side2 A8.out).mono ?_); (case side1 => repeat (first | exact (Kd.C_below HR0.out HB.out) | (with_reducible refine Kd.C_alloc ?_ _) | (with_reducible refine Kd.C_drewN ?_ _) | (with_reducible refine Kd.C_drew ?_))); (case side2 => exact HC0.out); rintro e w' ⟨rfl, ⟨nd, rfl⟩⟩; refine ⟨_, rfl, ?_⟩))
                go_roundg k1
                case measure => have := HK1.out; omega
                case rel => exact ⟨(wrap64 (x1_1 + 2)), (y107), (by first | rfl | (simp; done) | (simp [*]; done)), H', ⟨by have := HK1.out; omega⟩, ⟨by (with_reducible repeat (first | apply Kd.R_alloc | apply Kd.R_drewN | apply Kd.R_drew)); exact HO109.out⟩, ⟨by repeat (first | (with_reducible first | exact HB.out | apply below_alloc | apply pw_below_drewN | apply below_drew1) | exact HB.out)⟩⟩
              · replace c9 := Bool.eq_false_iff.mpr c9
                subst c9
                have H1 : (some (y107, wrap64 (x1_1 + 1), true)) = some (r1, r2, r3) := by rw [if_neg (show ¬ (false = true) by decide)] at H; exact H
                clear H
                have H := H1
                clear H1
                simp only [Option.some.injEq, Prod.mk.injEq] at H
                obtain ⟨rfl, rfl, rfl⟩ := H
                go_wp2_with (first | ((with_reducible refine gateF (f := 43) rfl ?_); refine goesL_ (some 10) rfl rfl Tryd.func43 (by kernel_rfl) rfl #[.slice A0 l0.length c0, .int .i64 x1_1] rfl (by (try simp only [List.map_toArray, List.map_cons, List.map_nil]); first | done | rfl | (simp only [List.length_drop, List.length_take]; rfl)) ?_; (with_reducible refine (transomref16_isLabel.calls _ _ l0 x1_1 true _ ?side1 ?side2 A3.out).mono ?_); (case side1 => repeat (first | exact (Kd.C_below HR0.out HB.out) | (with_reducible refine Kd.C_alloc ?_ _) | (with_reducible refine Kd.C_drewN ?_ _) | (with_reducible refine Kd.C_drew ?_))); (case side2 => exact HC0.out); rintro e w' ⟨rfl, ⟨nd, rfl⟩⟩; refine ⟨_, rfl, ?_⟩; have p106 : 0 ≤ (x1_1 : Int) := of_decide_eq_true (by first | (with_reducible assumption) | assumption); have q106 : x1_1 < (l0.length : Int) := of_decide_eq_true (by first | (with_reducible assumption) | assumption); obtain ⟨ad106, e106, hx106_0, hx106_1, hx106_2⟩ := at_T103 HR0.out x1_1 p106 q106; cases e106; replace hx106_0 := (HB.out.cell (World.block_lt_of_cell? w _ hx106_0)).trans hx106_0; replace hx106_1 := (HB.out.cell (World.block_lt_of_cell? w _ hx106_1)).trans hx106_1; replace hx106_2 := (HB.out.cell (World.block_lt_of_cell? w _ hx106_2)).trans hx106_2; replace p106 := eq_true p106; replace q106 := eq_true q106) | ((with_reducible refine gateB (b := .append) (xs := #[.tmp 11, .tmp 17]) rfl ?_); at_builtin; refine Kd.R_append Kd.string (w0 := w) w.heap.size rfl (.tmp 11) (.tmp 17) 83 9 (.string ⟨#[]⟩) 16 rfl Tryd.underlying83 info9 rfl (by decide) (by omega) u7 x7_1 ((rd_T103 l0 x1_1).f1) [.string ((rd_T103 l0 x1_1).f1)] (fun _ => True) (fun _ => False) rfl rfl ?aP (fun _ hk => hk.elim) ?aF ?aO ?aB ?aS ?aL ?_; (case aP => exact rfl); (case aB => exact (by repeat (first | (with_reducible first | exact HB.out | apply below_alloc | apply pw_below_drewN | apply below_drew1) | exact HB.out))); (case aF => exact (fun _ _ => trivial)); (case aO => exact (by (with_reducible repeat (first | apply Kd.R_alloc | apply Kd.R_drewN | apply Kd.R_drew)); exact HO_7.out)); (case aS => exact (below_size (by repeat (first | (with_reducible first | exact HB.out | apply below_alloc | apply pw_below_drewN | apply below_drew1) | exact HB.out)))); (case aL => have := LMc7.out; omega); intro v108 w11 ho hb hg hat; rw [← Ny107.out] at ho; have n0_ := Aside0.mk (hb); have n1_ := Aside0.mk (ho); clear HB; clear HO_7; have HB := n0_; have HO109 := n1_; clear n0_ n1_; clear ho hb hg hat) | ((with_reducible refine gateF (f := 37) rfl ?_); refine goesL_ (some 22) rfl rfl Tryd.func37 (by kernel_rfl) rfl #[.slice (some ad106) l0.length c0, .int .i64 (wrap64 (x1_1 + 1)), .string (⟨#[46]⟩ : ByteArray)] rfl (by (try simp only [List.map_toArray, List.map_cons, List.map_nil]); first | done | rfl | (simp only [List.length_drop, List.length_take]; rfl)) ?_; (with_reducible refine (transomref16_isSign.calls _ _ l0 (wrap64 (x1_1 + 1)) (⟨#[46]⟩ : ByteArray) false _ ?side1 ?side2 A8.out).mono ?_); (case side1 => repeat (first | exact (Kd.C_below HR0.out HB.out) | (with_reducible refine Kd.C_alloc ?_ _) | (with_reducible refine Kd.C_drewN ?_ _) | (with_reducible refine Kd.C_drew ?_))); (case side2 => exact HC0.out); rintro e w' ⟨rfl, ⟨nd, rfl⟩⟩; refine ⟨_, rfl, ?_⟩))
                go_ret3
                exact ⟨_, by first | rfl | (simp [errW_none, errW_some] <;> rfl) | (simp [*, errW_none, errW_some] <;> rfl), by (with_reducible repeat (first | apply Kd.R_alloc | apply Kd.R_drewN | apply Kd.R_drew)); exact HO109.out, by repeat (first | (with_reducible first | exact HB.out | apply below_alloc | apply pw_below_drewN | apply below_drew1) | exact HB.out)⟩
            · rw [if_neg c7] at H
              exact absurd H (by simp)
          · rw [if_neg c6] at H
            exact absurd H (by simp)
        · rw [if_neg c5] at H
          exact absurd H (by simp)
      · replace c4 := Bool.eq_false_iff.mpr c4
        subst c4
        have H1 : (some (([] : List ByteArray), x1_1, false)) = some (r1, r2, r3) := by rw [if_neg (show ¬ (false = true) by decide)] at H; exact H
        clear H
        have H := H1
        clear H1
        simp only [Option.some.injEq, Prod.mk.injEq] at H
        obtain ⟨rfl, rfl, rfl⟩ := H
        go_wp2_with (first | ((with_reducible refine gateF (f := 43) rfl ?_); refine goesL_ (some 10) rfl rfl Tryd.func43 (by kernel_rfl) rfl #[.slice A0 l0.length c0, .int .i64 x1_1] rfl (by (try simp only [List.map_toArray, List.map_cons, List.map_nil]); first | done | rfl | (simp only [List.length_drop, List.length_take]; rfl)) ?_; (with_reducible refine (transomref16_isLabel.calls _ _ l0 x1_1 false _ ?side1 ?side2 A3.out).mono ?_); (case side1 => repeat (first | exact (Kd.C_below HR0.out HB.out) | (with_reducible refine Kd.C_alloc ?_ _) | (with_reducible refine Kd.C_drewN ?_ _) | (with_reducible refine Kd.C_drew ?_))); (case side2 => exact HC0.out); rintro e w' ⟨rfl, ⟨nd, rfl⟩⟩; refine ⟨_, rfl, ?_⟩))
        go_ret3
        exact ⟨_, by first | rfl | (simp [errW_none, errW_some] <;> rfl) | (simp [*, errW_none, errW_some] <;> rfl), by first | exact Kd.R_nil _ _ _ _ _ | exact Kd.Q_nil _ _ _ _ _ | exact Kd.S_nil _ _ _ _ _, by repeat (first | (with_reducible first | exact HB.out | apply below_alloc | apply pw_below_drewN | apply below_drew1) | exact HB.out)⟩

end Go.Proofs.YtejpjclbeogajaaDoorP.Pf

-- laid by a program (wip/printf.sh): functions of the program as plain Lean functions, with their contracts
namespace Go.Proofs.YtejpjclbeogajaaDoorP.Pf
open Go.RowKit Go.Proofs.YtejpjclbeogajaaDoorW.PrintWords Go.Proofs.YtejpjclbeogajaaDoorW.PrintLast Go.Proofs.YtejpjclbeogajaaDoor.PwG
set_option linter.unusedVariables false
set_option linter.unusedSimpArgs false

/-! ### transomref16_Find: function 44 -/
def transomref16_Find.l0 : Nat → Int → ByteArray → Int → List (S82) → List (S85) → Int → Option (Int)
  | 0, _, _, _, _, _, _ => none
  | k + 1, x1, x2, x7, x112000, x112001, x112002 => if 0 ≤ x1 then (if x1 < (x112000.length : Int) then (if x7 < (((rd_T82 x112000 x1).f1).length : Int) then (if 0 ≤ x7 then (if ((rd_T79 ((rd_T82 x112000 x1).f1) x7).f0).toList = x2.toList then (some x7) else (transomref16_Find.l0 k x1 x2 (wrap64 (x7 + 1)) x112000 x112001 x112002)) else (none)) else (some (-1))) else (none)) else (none)
def transomref16_Find.f (k : Nat) (l0_0 : List (S82)) (l0_1 : List (S85)) (a0_2 : Int) (a1 : Int) (a2 : ByteArray) : Option (Int) := transomref16_Find.l0 k a1 a2 0 l0_0 l0_1 a0_2
theorem transomref16_Find.mono_l : ∀ k, (∀ y0 y1 y2 y3 y4 y5, LeO (transomref16_Find.l0 k y0 y1 y2 y3 y4 y5) (transomref16_Find.l0 (k + 1) y0 y1 y2 y3 y4 y5))
  | 0 => fun _ _ _ _ _ _ r h => by simp [transomref16_Find.l0] at h
  | k + 1 => by
    have ih0 := transomref16_Find.mono_l k
    · intro y0 y1 y2 y3 y4 y5
      unfold transomref16_Find.l0
      repeat' first
      | (with_reducible exact ih0 _ _ _ _ _ _)
      | (with_reducible exact LeO.refl _)
      | (with_reducible exact LeO.none _)
      | (with_reducible refine LeO.ite ?_ ?_)
      | (with_reducible refine LeO.bind ?_ (fun _ => ?_))
      | exact ih0 _ _ _ _ _ _
      | exact LeO.none _
      | refine LeO.ite ?_ ?_
      | refine LeO.bind ?_ (fun _ => ?_)
theorem transomref16_Find.mono : ∀ a0 a1 a2 a3 a4 k, LeO (transomref16_Find.f k a0 a1 a2 a3 a4) (transomref16_Find.f (k + 1) a0 a1 a2 a3 a4) := by
  intro a0 a1 a2 a3 a4 k
  have ih0 := transomref16_Find.mono_l k
  unfold transomref16_Find.f
  repeat' first
      | (with_reducible exact ih0 _ _ _ _ _ _)
      | (with_reducible exact LeO.refl _)
      | (with_reducible exact LeO.none _)
      | (with_reducible refine LeO.ite ?_ ?_)
      | (with_reducible refine LeO.bind ?_ (fun _ => ?_))
      | exact ih0 _ _ _ _ _ _
      | exact LeO.none _
      | refine LeO.ite ?_ ?_
      | refine LeO.bind ?_ (fun _ => ?_)
set_option maxHeartbeats 8000000 in
set_option maxRecDepth 100000 in
theorem transomref16_Find.calls (k : Nat) (A0_0 : Option Addr) (c0_0 : Nat) (l0_0 : List (S82)) (A0_1 : Option Addr) (c0_1 : Nat) (l0_1 : List (S85)) (a0_2 : Int) (a1 : Int) (a2 : ByteArray) (r : Int) (w : World) (hr0_0 : Kd.C k82 w A0_0 l0_0.length l0_0) (hc0_0 : l0_0.length ≤ c0_0) (hr0_1 : Kd.C k85 w A0_1 l0_1.length l0_1) (hc0_1 : l0_1.length ≤ c0_1) (h : transomref16_Find.f k l0_0 l0_1 a0_2 a1 a2 = some r) :
    Calls Tryd.prog 44 #[.agg #[.slice A0_0 l0_0.length c0_0, .slice A0_1 l0_1.length c0_1, .int .i64 a0_2], .int .i64 a1, .string a2] w fun e w' => e = .returned (.int .i64 r) ∧ Below w.heap.size w w' := by
  have hu32 := Tryd.underlying32
  have HR0_0 := Aside0.mk hr0_0
  have HC0_0 := Aside0.mk hc0_0
  clear hr0_0 hc0_0
  have HR0_1 := Aside0.mk hr0_1
  have HC0_1 := Aside0.mk hc0_1
  clear hr0_1 hc0_1
  have HB := Aside0.mk (Below.refl w.heap.size w)
  have H : (transomref16_Find.l0 k a1 a2 0 l0_0 l0_1 a0_2) = some r := h
  clear h
  have H' := Aside0.mk H
  clear H
  go_enter Tryd.func44, Tryd.ntmps44
  go_wp2_with (first | ((with_reducible refine gate_dst (N := 3) rfl ?_); refine box_event ?hg (N := 3) ?hd (cs := #[.slice A0_0 l0_0.length c0_0, .slice A0_1 l0_1.length c0_1, .int .i64 a0_2]) (t := 32) ?hr ?_; (case hd => rfl); (case hg => rfl); (case hr => first | (go_simp; done) | (go_simp; rfl)); intro gb111 hg w4 hbox hb; have n0_ := Aside0.mk (below_step (by repeat (first | (with_reducible first | exact HB.out | apply below_alloc | apply pw_below_drewN | apply below_drew1) | exact HB.out)) hb); have n1_ := Aside0.mk (hbox); have n2_ := Aside0.mk ((by rw [hg]; exact (below_size (by repeat (first | (with_reducible first | exact HB.out | apply below_alloc | apply pw_below_drewN | apply below_drew1) | exact HB.out))) : w.heap.size ≤ gb111)); have n3_ := Aside0.mk ((by rw [hg]; exact (below_size (by repeat (first | (with_reducible first | exact HB.out | apply below_alloc | apply pw_below_drewN | apply below_drew1) | exact HB.out))) : w.heap.size ≤ gb111)); clear HB; have HB := n0_; have BK111 := n1_; have GW111 := n2_; have GE111 := n3_; clear n0_ n1_ n2_ n3_; clear hb hbox hg))
  go_loopg [7] k (fun kq v7 w' => ∃ (x7_1 : Int), v7 = .int .i64 x7_1 ∧ Aside0 (transomref16_Find.l0 kq a1 a2 x7_1 l0_0 l0_1 a0_2 = some r) ∧ Aside0 (kq ≤ k) ∧ Aside0 (w'.heap[gb111]? = some (.cells #[(.slice A0_0 l0_0.length c0_0), (.slice A0_1 l0_1.length c0_1), .int .i64 a0_2] 32 (0, 0))) ∧ Aside0 (Below w.heap.size w w'))
  case atStart => exact ⟨(0), (by first | rfl | (simp; done) | (simp [*]; done)), H', ⟨Nat.le_refl _⟩, ⟨by (with_reducible repeat (first | refine blk_drewN ?_ _ | refine blk_drew ?_ | refine blk_alloc ?_ _)); exact BK111.out⟩, ⟨by repeat (first | (with_reducible first | exact HB.out | apply below_alloc | apply pw_below_drewN | apply below_drew1 | refine below_set ?_ GE111.out) | exact HB.out)⟩⟩
  case round =>
    clear H'
    try clear p2
    try clear c4
    obtain ⟨x7_1, rfl, HA, HK1, BK111, HB⟩ := hrel
    cases gk with
    | zero => exact absurd HA.out (by simp [transomref16_Find.l0])
    | succ k1 =>
      have H := HA.out
      clear HA
      simp only [transomref16_Find.l0] at H
      by_cases c5 : 0 ≤ a1
      · rw [if_pos c5] at H
        have c5b0 : decide (0 ≤ a1) = true := decide_eq_true c5
        clear c5
        by_cases c6 : a1 < (l0_0.length : Int)
        · rw [if_pos c6] at H
          have c6b0 : decide (a1 < (l0_0.length : Int)) = true := decide_eq_true c6
          clear c6
          by_cases c7 : x7_1 < (((rd_T82 l0_0 a1).f1).length : Int)
          · rw [if_pos c7] at H
            have c7b0 : decide (x7_1 < (((rd_T82 l0_0 a1).f1).length : Int)) = true := decide_eq_true c7
            clear c7
            by_cases c8 : 0 ≤ x7_1
            · rw [if_pos c8] at H
              have c8b0 : decide (0 ≤ x7_1) = true := decide_eq_true c8
              clear c8
              by_cases c9 : ((rd_T79 ((rd_T82 l0_0 a1).f1) x7_1).f0).toList = a2.toList
              · rw [if_pos c9] at H
                have c9b0 : (((rd_T79 ((rd_T82 l0_0 a1).f1) x7_1).f0).toList == a2.toList) = true := beq_iff_eq.mpr c9
                have c9b1 : (((rd_T79 ((rd_T82 l0_0 a1).f1) x7_1).f0).toList != a2.toList) = false := bne_eq_false_iff_eq.mpr c9
                clear c9
                obtain rfl := Option.some.inj H
                have hcz10_0 : wr.cell? ⟨gb111, 0, none⟩ = some (.slice A0_0 l0_0.length c0_0) := (blk_cell BK111.out 0).trans rfl
                have hcz10_1 : wr.cell? ⟨gb111, 1, none⟩ = some (.slice A0_1 l0_1.length c0_1) := (blk_cell BK111.out 1).trans rfl
                have hcz10_2 : wr.cell? ⟨gb111, 2, none⟩ = some (.int .i64 a0_2) := (blk_cell BK111.out 2).trans rfl
                have hfz10_0 := blk_frozen BK111.out 0
                have hfz10_1 := blk_frozen BK111.out 1
                have hfz10_2 := blk_frozen BK111.out 2
                have p112 : 0 ≤ (a1 : Int) := of_decide_eq_true (by first | (with_reducible assumption) | assumption)
                have q112 : a1 < (l0_0.length : Int) := of_decide_eq_true (by first | (with_reducible assumption) | assumption)
                obtain ⟨ad112, A112_1, c112_1, e112, hx112_0, hx112_1, hl112_1, hi112_1⟩ := at_T82 HR0_0.out a1 p112 q112
                cases e112
                replace hx112_0 := (HB.out.cell (World.block_lt_of_cell? w _ hx112_0)).trans hx112_0
                replace hx112_1 := (HB.out.cell (World.block_lt_of_cell? w _ hx112_1)).trans hx112_1
                have HR112_1 := Aside0.mk hi112_1
                have HC112_1 := Aside0.mk hl112_1
                clear hi112_1 hl112_1
                replace p112 := eq_true p112
                replace q112 := eq_true q112
                have p113 : 0 ≤ (a1 : Int) := of_decide_eq_true (by first | (with_reducible assumption) | assumption)
                have q113 : a1 < (l0_0.length : Int) := of_decide_eq_true (by first | (with_reducible assumption) | assumption)
                obtain ⟨ad113, A113_1, c113_1, e113, hx113_0, hx113_1, hl113_1, hi113_1⟩ := at_T82 HR0_0.out a1 p113 q113
                obtain rfl : ad112 = ad113 := (by injection e113)
                replace hx113_0 := (HB.out.cell (World.block_lt_of_cell? w _ hx113_0)).trans hx113_0
                replace hx113_1 := (HB.out.cell (World.block_lt_of_cell? w _ hx113_1)).trans hx113_1
                have HR113_1 := Aside0.mk hi113_1
                have HC113_1 := Aside0.mk hl113_1
                clear hi113_1 hl113_1
                replace p113 := eq_true p113
                replace q113 := eq_true q113
                have ea_ := Option.some.inj (hx112_1.symm.trans hx113_1)
                injection ea_ with ea_ en_ ec_
                subst ea_
                subst ec_
                clear en_
                have p114 : 0 ≤ (x7_1 : Int) := of_decide_eq_true (by first | (with_reducible assumption) | assumption)
                have q114 : x7_1 < (((rd_T82 l0_0 a1).f1).length : Int) := of_decide_eq_true (by first | (with_reducible assumption) | assumption)
                obtain ⟨ad114, e114, hx114_0, hx114_1, hx114_2, hx114_3, hx114_4⟩ := at_T79 HR113_1.out x7_1 p114 q114
                cases e114
                replace hx114_0 := (HB.out.cell (World.block_lt_of_cell? w _ hx114_0)).trans hx114_0
                replace hx114_1 := (HB.out.cell (World.block_lt_of_cell? w _ hx114_1)).trans hx114_1
                replace hx114_2 := (HB.out.cell (World.block_lt_of_cell? w _ hx114_2)).trans hx114_2
                replace hx114_3 := (HB.out.cell (World.block_lt_of_cell? w _ hx114_3)).trans hx114_3
                replace hx114_4 := (HB.out.cell (World.block_lt_of_cell? w _ hx114_4)).trans hx114_4
                replace p114 := eq_true p114
                replace q114 := eq_true q114
                go_wp2
                go_ret
                exact ⟨by first | rfl | (simp [errW_none, errW_some] <;> rfl) | (simp [*, errW_none, errW_some] <;> rfl), by repeat (first | (with_reducible first | exact HB.out | apply below_alloc | apply pw_below_drewN | apply below_drew1 | refine below_set ?_ GE111.out) | exact HB.out)⟩
              · rw [if_neg c9] at H
                have c9b0 : (((rd_T79 ((rd_T82 l0_0 a1).f1) x7_1).f0).toList == a2.toList) = false := beq_eq_false_iff_ne.mpr c9
                have c9b1 : (((rd_T79 ((rd_T82 l0_0 a1).f1) x7_1).f0).toList != a2.toList) = true := bne_iff_ne.mpr c9
                have H' := Aside0.mk H
                clear H
                have hcz11_0 : wr.cell? ⟨gb111, 0, none⟩ = some (.slice A0_0 l0_0.length c0_0) := (blk_cell BK111.out 0).trans rfl
                have hcz11_1 : wr.cell? ⟨gb111, 1, none⟩ = some (.slice A0_1 l0_1.length c0_1) := (blk_cell BK111.out 1).trans rfl
                have hcz11_2 : wr.cell? ⟨gb111, 2, none⟩ = some (.int .i64 a0_2) := (blk_cell BK111.out 2).trans rfl
                have hfz11_0 := blk_frozen BK111.out 0
                have hfz11_1 := blk_frozen BK111.out 1
                have hfz11_2 := blk_frozen BK111.out 2
                have p112 : 0 ≤ (a1 : Int) := of_decide_eq_true (by first | (with_reducible assumption) | assumption)
                have q112 : a1 < (l0_0.length : Int) := of_decide_eq_true (by first | (with_reducible assumption) | assumption)
                obtain ⟨ad112, A112_1, c112_1, e112, hx112_0, hx112_1, hl112_1, hi112_1⟩ := at_T82 HR0_0.out a1 p112 q112
                cases e112
                replace hx112_0 := (HB.out.cell (World.block_lt_of_cell? w _ hx112_0)).trans hx112_0
                replace hx112_1 := (HB.out.cell (World.block_lt_of_cell? w _ hx112_1)).trans hx112_1
                have HR112_1 := Aside0.mk hi112_1
                have HC112_1 := Aside0.mk hl112_1
                clear hi112_1 hl112_1
                replace p112 := eq_true p112
                replace q112 := eq_true q112
                have p113 : 0 ≤ (a1 : Int) := of_decide_eq_true (by first | (with_reducible assumption) | assumption)
                have q113 : a1 < (l0_0.length : Int) := of_decide_eq_true (by first | (with_reducible assumption) | assumption)
                obtain ⟨ad113, A113_1, c113_1, e113, hx113_0, hx113_1, hl113_1, hi113_1⟩ := at_T82 HR0_0.out a1 p113 q113
                obtain rfl : ad112 = ad113 := (by injection e113)
                replace hx113_0 := (HB.out.cell (World.block_lt_of_cell? w _ hx113_0)).trans hx113_0
                replace hx113_1 := (HB.out.cell (World.block_lt_of_cell? w _ hx113_1)).trans hx113_1
                have HR113_1 := Aside0.mk hi113_1
                have HC113_1 := Aside0.mk hl113_1
                clear hi113_1 hl113_1
                replace p113 := eq_true p113
                replace q113 := eq_true q113
                have ea_ := Option.some.inj (hx112_1.symm.trans hx113_1)
                injection ea_ with ea_ en_ ec_
                subst ea_
                subst ec_
                clear en_
                have p114 : 0 ≤ (x7_1 : Int) := of_decide_eq_true (by first | (with_reducible assumption) | assumption)
                have q114 : x7_1 < (((rd_T82 l0_0 a1).f1).length : Int) := of_decide_eq_true (by first | (with_reducible assumption) | assumption)
                obtain ⟨ad114, e114, hx114_0, hx114_1, hx114_2, hx114_3, hx114_4⟩ := at_T79 HR113_1.out x7_1 p114 q114
                cases e114
                replace hx114_0 := (HB.out.cell (World.block_lt_of_cell? w _ hx114_0)).trans hx114_0
                replace hx114_1 := (HB.out.cell (World.block_lt_of_cell? w _ hx114_1)).trans hx114_1
                replace hx114_2 := (HB.out.cell (World.block_lt_of_cell? w _ hx114_2)).trans hx114_2
                replace hx114_3 := (HB.out.cell (World.block_lt_of_cell? w _ hx114_3)).trans hx114_3
                replace hx114_4 := (HB.out.cell (World.block_lt_of_cell? w _ hx114_4)).trans hx114_4
                replace p114 := eq_true p114
                replace q114 := eq_true q114
                go_wp2
                go_roundg k1
                case measure => have := HK1.out; omega
                case rel => exact ⟨(wrap64 (x7_1 + 1)), (by first | rfl | (simp; done) | (simp [*]; done)), H', ⟨by have := HK1.out; omega⟩, ⟨by (with_reducible repeat (first | refine blk_drewN ?_ _ | refine blk_drew ?_ | refine blk_alloc ?_ _)); exact BK111.out⟩, ⟨by repeat (first | (with_reducible first | exact HB.out | apply below_alloc | apply pw_below_drewN | apply below_drew1 | refine below_set ?_ GE111.out) | exact HB.out)⟩⟩
            · rw [if_neg c8] at H
              exact absurd H (by simp)
          · rw [if_neg c7] at H
            have c7b0 : decide (x7_1 < (((rd_T82 l0_0 a1).f1).length : Int)) = false := decide_eq_false c7
            clear c7
            obtain rfl := Option.some.inj H
            have hcz12_0 : wr.cell? ⟨gb111, 0, none⟩ = some (.slice A0_0 l0_0.length c0_0) := (blk_cell BK111.out 0).trans rfl
            have hcz12_1 : wr.cell? ⟨gb111, 1, none⟩ = some (.slice A0_1 l0_1.length c0_1) := (blk_cell BK111.out 1).trans rfl
            have hcz12_2 : wr.cell? ⟨gb111, 2, none⟩ = some (.int .i64 a0_2) := (blk_cell BK111.out 2).trans rfl
            have hfz12_0 := blk_frozen BK111.out 0
            have hfz12_1 := blk_frozen BK111.out 1
            have hfz12_2 := blk_frozen BK111.out 2
            have p112 : 0 ≤ (a1 : Int) := of_decide_eq_true (by first | (with_reducible assumption) | assumption)
            have q112 : a1 < (l0_0.length : Int) := of_decide_eq_true (by first | (with_reducible assumption) | assumption)
            obtain ⟨ad112, A112_1, c112_1, e112, hx112_0, hx112_1, hl112_1, hi112_1⟩ := at_T82 HR0_0.out a1 p112 q112
            cases e112
            replace hx112_0 := (HB.out.cell (World.block_lt_of_cell? w _ hx112_0)).trans hx112_0
            replace hx112_1 := (HB.out.cell (World.block_lt_of_cell? w _ hx112_1)).trans hx112_1
            have HR112_1 := Aside0.mk hi112_1
            have HC112_1 := Aside0.mk hl112_1
            clear hi112_1 hl112_1
            replace p112 := eq_true p112
            replace q112 := eq_true q112
            go_wp2
            go_ret
            exact ⟨by first | rfl | (simp [errW_none, errW_some] <;> rfl) | (simp [*, errW_none, errW_some] <;> rfl), by repeat (first | (with_reducible first | exact HB.out | apply below_alloc | apply pw_below_drewN | apply below_drew1 | refine below_set ?_ GE111.out) | exact HB.out)⟩
        · rw [if_neg c6] at H
          exact absurd H (by simp)
      · rw [if_neg c5] at H
        exact absurd H (by simp)

end Go.Proofs.YtejpjclbeogajaaDoorP.Pf

-- laid by a program (wip/printf.sh): functions of the program as plain Lean functions, with their contracts
namespace Go.Proofs.YtejpjclbeogajaaDoorP.Pf
open Go.RowKit Go.Proofs.YtejpjclbeogajaaDoorW.PrintWords Go.Proofs.YtejpjclbeogajaaDoorW.PrintLast Go.Proofs.YtejpjclbeogajaaDoor.PwG
set_option linter.unusedVariables false
set_option linter.unusedSimpArgs false

/-! ### transomref16_Way: function 38 -/
mutual
def transomref16_Way.l0 : Nat → Int → List ByteArray → List Int → Int → List (S82) → List (S85) → Int → Option (List Int × Bool)
  | 0, _, _, _, _, _, _, _ => none
  | k + 1, x1, x2, x8, x9, x116000, x116001, x116002 => if x9 < (x2.length : Int) then (if 0 ≤ x9 then ((transomref16_Find.f k x116000 x116001 x116002 x1 (rdOf ByteArray.empty x2 x9)).bind fun t117 => (if t117 < 0 then (some (([] : List Int), false)) else (if x8.length < 17592186044416 then ((some (x8 ++ [t117] : List Int)).bind fun y118 => (if 0 ≤ x1 then (if x1 < (x116000.length : Int) then (if 0 ≤ t117 then (if t117 < (((rd_T82 x116000 x1).f1).length : Int) then (if (wrap64 (x9 + 1)) < (x2.length : Int) then (transomref16_Way.j1 k x1 x2 y118 x9 (((rd_T79 ((rd_T82 x116000 x1).f1) t117).f1.f0) != 13) x116000 x116001 x116002 ((rd_T79 ((rd_T82 x116000 x1).f1) t117).f1.f0) ((rd_T79 ((rd_T82 x116000 x1).f1) t117).f1.f1) ((rd_T79 ((rd_T82 x116000 x1).f1) t117).f1.f2)) else (transomref16_Way.j1 k x1 x2 y118 x9 false x116000 x116001 x116002 ((rd_T79 ((rd_T82 x116000 x1).f1) t117).f1.f0) ((rd_T79 ((rd_T82 x116000 x1).f1) t117).f1.f1) ((rd_T79 ((rd_T82 x116000 x1).f1) t117).f1.f2))) else (none)) else (none)) else (none)) else (none))) else (none)))) else (none)) else (some (x8, decide ((x8.length : Int) > 0)))
def transomref16_Way.j1 : Nat → Int → List ByteArray → List Int → Int → Bool → List (S82) → List (S85) → Int → Int → Int → Int → Option (List Int × Bool)
  | 0, _, _, _, _, _, _, _, _, _, _, _ => none
  | k + 1, x1, x2, x8, x9, x50, x116000, x116001, x116002, x124000, x124001, x124002 => if x50 = true then (some (([] : List Int), false)) else (if x124000 = 13 then (transomref16_Way.l0 k x124001 x2 x8 (wrap64 (x9 + 1)) x116000 x116001 x116002) else (transomref16_Way.l0 k x1 x2 x8 (wrap64 (x9 + 1)) x116000 x116001 x116002))
end
def transomref16_Way.f (k : Nat) (l0_0 : List (S82)) (l0_1 : List (S85)) (a0_2 : Int) (a1 : Int) (l2 : List ByteArray) : Option (List Int × Bool) := transomref16_Way.l0 k a1 l2 ([] : List Int) 0 l0_0 l0_1 a0_2
theorem transomref16_Way.mono_l : ∀ k, (∀ y0 y1 y2 y3 y4 y5 y6, LeO (transomref16_Way.l0 k y0 y1 y2 y3 y4 y5 y6) (transomref16_Way.l0 (k + 1) y0 y1 y2 y3 y4 y5 y6)) ∧ (∀ y0 y1 y2 y3 y4 y5 y6 y7 y8 y9 y10, LeO (transomref16_Way.j1 k y0 y1 y2 y3 y4 y5 y6 y7 y8 y9 y10) (transomref16_Way.j1 (k + 1) y0 y1 y2 y3 y4 y5 y6 y7 y8 y9 y10))
  | 0 => ⟨fun _ _ _ _ _ _ _ r h => by simp [transomref16_Way.l0] at h, fun _ _ _ _ _ _ _ _ _ _ _ r h => by simp [transomref16_Way.j1] at h⟩
  | k + 1 => by
    obtain ⟨ih0, ih1⟩ := transomref16_Way.mono_l k
    refine ⟨?_, ?_⟩
    · intro y0 y1 y2 y3 y4 y5 y6
      unfold transomref16_Way.l0
      repeat' first
      | (with_reducible exact ih0 _ _ _ _ _ _ _)
      | (with_reducible exact ih1 _ _ _ _ _ _ _ _ _ _ _)
      | (with_reducible exact transomref16_Find.mono _ _ _ _ _ _)
      | (with_reducible exact LeO.refl _)
      | (with_reducible exact LeO.none _)
      | (with_reducible refine LeO.ite ?_ ?_)
      | (with_reducible refine LeO.bind ?_ (fun _ => ?_))
      | exact ih0 _ _ _ _ _ _ _
      | exact ih1 _ _ _ _ _ _ _ _ _ _ _
      | exact transomref16_Find.mono _ _ _ _ _ _
      | exact LeO.none _
      | refine LeO.ite ?_ ?_
      | refine LeO.bind ?_ (fun _ => ?_)
    · intro y0 y1 y2 y3 y4 y5 y6 y7 y8 y9 y10
      unfold transomref16_Way.j1
      repeat' first
      | (with_reducible exact ih0 _ _ _ _ _ _ _)
      | (with_reducible exact ih1 _ _ _ _ _ _ _ _ _ _ _)
      | (with_reducible exact transomref16_Find.mono _ _ _ _ _ _)
      | (with_reducible exact LeO.refl _)
      | (with_reducible exact LeO.none _)
      | (with_reducible refine LeO.ite ?_ ?_)
      | (with_reducible refine LeO.bind ?_ (fun _ => ?_))
      | exact ih0 _ _ _ _ _ _ _
      | exact ih1 _ _ _ _ _ _ _ _ _ _ _
      | exact transomref16_Find.mono _ _ _ _ _ _
      | exact LeO.none _
      | refine LeO.ite ?_ ?_
      | refine LeO.bind ?_ (fun _ => ?_)
theorem transomref16_Way.mono : ∀ a0 a1 a2 a3 a4 k, LeO (transomref16_Way.f k a0 a1 a2 a3 a4) (transomref16_Way.f (k + 1) a0 a1 a2 a3 a4) := by
  intro a0 a1 a2 a3 a4 k
  obtain ⟨ih0, ih1⟩ := transomref16_Way.mono_l k
  unfold transomref16_Way.f
  repeat' first
      | (with_reducible exact ih0 _ _ _ _ _ _ _)
      | (with_reducible exact ih1 _ _ _ _ _ _ _ _ _ _ _)
      | (with_reducible exact transomref16_Find.mono _ _ _ _ _ _)
      | (with_reducible exact LeO.refl _)
      | (with_reducible exact LeO.none _)
      | (with_reducible refine LeO.ite ?_ ?_)
      | (with_reducible refine LeO.bind ?_ (fun _ => ?_))
      | exact ih0 _ _ _ _ _ _ _
      | exact ih1 _ _ _ _ _ _ _ _ _ _ _
      | exact transomref16_Find.mono _ _ _ _ _ _
      | exact LeO.none _
      | refine LeO.ite ?_ ?_
      | refine LeO.bind ?_ (fun _ => ?_)
def transomref16_Way.T5 : Bool × List (List Nat × List Nat) := (true, [([], []), ([], []), ([], []), ([], []), ([2, 3], [2, 3]), ([4], [4]), ([0, 1, 5], [0, 1, 5]), ([6, 6, 0, 1, 2, 3, 4, 5, 6], [6])])
def transomref16_Way.B5 : List Nat := [0, 0, 0, 0, 12, 28, 63, 127]
theorem transomref16_Way.tab5 : rtab .any (opsOf Tryd.f38 5) = transomref16_Way.T5 := by kernel_rfl
theorem transomref16_Way.bits5 : waitsOk transomref16_Way.T5.2 transomref16_Way.B5 = true := by kernel_rfl
set_option maxHeartbeats 8000000 in
set_option maxRecDepth 100000 in
theorem transomref16_Way.calls (k : Nat) (A0_0 : Option Addr) (c0_0 : Nat) (l0_0 : List (S82)) (A0_1 : Option Addr) (c0_1 : Nat) (l0_1 : List (S85)) (a0_2 : Int) (a1 : Int) (A2 : Option Addr) (c2 : Nat) (l2 : List ByteArray) (r1 : List Int) (r2 : Bool) (w : World) (hr0_0 : Kd.C k82 w A0_0 l0_0.length l0_0) (hc0_0 : l0_0.length ≤ c0_0) (hr0_1 : Kd.C k85 w A0_1 l0_1.length l0_1) (hc0_1 : l0_1.length ≤ c0_1) (hr2 : Kd.C Kd.string w A2 l2.length l2) (hc2 : l2.length ≤ c2) (h : transomref16_Way.f k l0_0 l0_1 a0_2 a1 l2 = some (r1, r2)) :
    Calls Tryd.prog 38 #[.agg #[.slice A0_0 l0_0.length c0_0, .slice A0_1 l0_1.length c0_1, .int .i64 a0_2], .int .i64 a1, .slice A2 l2.length c2] w fun e w' => ∃ v0_ : Value, e = .returned (.tuple #[v0_, .bool r2]) ∧ Kd.R (Kd.int .i64) 3 w' w.heap.size (fun _ => True) v0_ r1 ∧ Below w.heap.size w w' := by
  have hu32 := Tryd.underlying32
  have hu49 := Tryd.underlying49
  have HR0_0 := Aside0.mk hr0_0
  have HC0_0 := Aside0.mk hc0_0
  clear hr0_0 hc0_0
  have HR0_1 := Aside0.mk hr0_1
  have HC0_1 := Aside0.mk hc0_1
  clear hr0_1 hc0_1
  have HR2 := Aside0.mk hr2
  have HC2 := Aside0.mk hc2
  clear hr2 hc2
  have HB := Aside0.mk (Below.refl w.heap.size w)
  have H : (transomref16_Way.l0 k a1 l2 ([] : List Int) 0 l0_0 l0_1 a0_2) = some (r1, r2) := h
  clear h
  have H' := Aside0.mk H
  clear H
  go_enter Tryd.func38, Tryd.ntmps38
  go_wp2_with (first | ((with_reducible refine gate_dst (N := 3) rfl ?_); refine box_event ?hg (N := 3) ?hd (cs := #[.slice A0_0 l0_0.length c0_0, .slice A0_1 l0_1.length c0_1, .int .i64 a0_2]) (t := 32) ?hr ?_; (case hd => rfl); (case hg => rfl); (case hr => first | (go_simp; done) | (go_simp; rfl)); intro gb115 hg w4 hbox hb; have n0_ := Aside0.mk (below_step (by repeat (first | (with_reducible first | exact HB.out | apply below_alloc | apply pw_below_drewN | apply below_drew1) | exact HB.out)) hb); have n1_ := Aside0.mk (hbox); have n2_ := Aside0.mk ((by rw [hg]; exact (below_size (by repeat (first | (with_reducible first | exact HB.out | apply below_alloc | apply pw_below_drewN | apply below_drew1) | exact HB.out))) : w.heap.size ≤ gb115)); have n3_ := Aside0.mk ((by rw [hg]; exact (below_size (by repeat (first | (with_reducible first | exact HB.out | apply below_alloc | apply pw_below_drewN | apply below_drew1) | exact HB.out))) : w.heap.size ≤ gb115)); clear HB; have HB := n0_; have BK115 := n1_; have GW115 := n2_; have GE115 := n3_; clear n0_ n1_ n2_ n3_; clear hb hbox hg))
  go_loopg [1, 8, 9] k (fun kq v1 v8 v9 w' => ∃ (x1_1 : Int) (x8_1 : List Int) (x9_1 : Int), v1 = .int .i64 x1_1 ∧ v9 = .int .i64 x9_1 ∧ Aside0 (transomref16_Way.l0 kq x1_1 l2 x8_1 x9_1 l0_0 l0_1 a0_2 = some (r1, r2)) ∧ Aside0 (kq ≤ k) ∧ Aside0 (Kd.R (Kd.int .i64) 3 w' w.heap.size (fun _ => True) v8 x8_1) ∧ Aside0 (w'.heap[gb115]? = some (.cells #[(.slice A0_0 l0_0.length c0_0), (.slice A0_1 l0_1.length c0_1), .int .i64 a0_2] 32 (0, 0))) ∧ Aside0 (Below w.heap.size w w'))
  case atStart => exact ⟨(a1), (([] : List Int)), (0), (by first | rfl | (simp; done) | (simp [*]; done)), (by first | rfl | (simp; done) | (simp [*]; done)), H', ⟨Nat.le_refl _⟩, ⟨by first | exact Kd.R_nil _ _ _ _ _ | exact Kd.Q_nil _ _ _ _ _ | exact Kd.S_nil _ _ _ _ _⟩, ⟨by (with_reducible repeat (first | refine blk_drewN ?_ _ | refine blk_drew ?_ | refine blk_alloc ?_ _)); exact BK115.out⟩, ⟨by repeat (first | (with_reducible first | exact HB.out | apply below_alloc | apply pw_below_drewN | apply below_drew1 | refine below_set ?_ GE115.out) | exact HB.out)⟩⟩
  case round =>
    clear H'
    try clear c2
    try clear p2
    try clear c3
    obtain ⟨x1_1, x8_1, x9_1, rfl, rfl, HA, HK1, HO_8, BK115, HB⟩ := hrel
    cases gk with
    | zero => exact absurd HA.out (by simp [transomref16_Way.l0])
    | succ k1 =>
      have H := HA.out
      clear HA
      simp only [transomref16_Way.l0] at H
      by_cases c5 : x9_1 < (l2.length : Int)
      · rw [if_pos c5] at H
        have c5b0 : decide (x9_1 < (l2.length : Int)) = true := decide_eq_true c5
        clear c5
        by_cases c6 : 0 ≤ x9_1
        · rw [if_pos c6] at H
          have c6b0 : decide (0 ≤ x9_1) = true := decide_eq_true c6
          clear c6
          replace H := Option.bind_eq_some_iff.mp H
          obtain ⟨t117, A70, H⟩ := H
          replace H : (if t117 < 0 then (some (([] : List Int), false)) else (if x8_1.length < 17592186044416 then ((some (x8_1 ++ [t117] : List Int)).bind fun y118 => (if 0 ≤ x1_1 then (if x1_1 < (l0_0.length : Int) then (if 0 ≤ t117 then (if t117 < (((rd_T82 l0_0 x1_1).f1).length : Int) then (if (wrap64 (x9_1 + 1)) < (l2.length : Int) then (transomref16_Way.j1 k1 x1_1 l2 y118 x9_1 (((rd_T79 ((rd_T82 l0_0 x1_1).f1) t117).f1.f0) != 13) l0_0 l0_1 a0_2 ((rd_T79 ((rd_T82 l0_0 x1_1).f1) t117).f1.f0) ((rd_T79 ((rd_T82 l0_0 x1_1).f1) t117).f1.f1) ((rd_T79 ((rd_T82 l0_0 x1_1).f1) t117).f1.f2)) else (transomref16_Way.j1 k1 x1_1 l2 y118 x9_1 false l0_0 l0_1 a0_2 ((rd_T79 ((rd_T82 l0_0 x1_1).f1) t117).f1.f0) ((rd_T79 ((rd_T82 l0_0 x1_1).f1) t117).f1.f1) ((rd_T79 ((rd_T82 l0_0 x1_1).f1) t117).f1.f2))) else (none)) else (none)) else (none)) else (none))) else (none))) = some (r1, r2) := H
          have A7 := Aside0.mk A70
          clear A70
          by_cases c8 : t117 < 0
          · rw [if_pos c8] at H
            have c8b0 : decide (t117 < 0) = true := decide_eq_true c8
            clear c8
            simp only [Option.some.injEq, Prod.mk.injEq] at H
            obtain ⟨rfl, rfl⟩ := H
            try go_wp2
            have n0_ := Aside0.mk (Kd.R_drew HO_8.out)
            have n1_ := Aside0.mk (blk_drew BK115.out)
            have n2_ := Aside0.mk (below_drew1 HB.out)
            clear HO_8
            clear BK115
            clear HB
            have HO_8 := n0_
            have BK115 := n1_
            have HB := n2_
            clear n0_ n1_ n2_
            have p116 : 0 ≤ (x9_1 : Int) := of_decide_eq_true (by first | (with_reducible assumption) | assumption)
            have q116 : x9_1 < (l2.length : Int) := of_decide_eq_true (by first | (with_reducible assumption) | assumption)
            obtain ⟨ad116, e116, hx116_0⟩ := Kd.at_string HR2.out x9_1 p116 q116
            have hw116_0 := hx116_0
            cases e116
            replace hx116_0 := (HB.out.cell (World.block_lt_of_cell? w _ hx116_0)).trans hx116_0
            replace p116 := eq_true p116
            replace q116 := eq_true q116
            refine start_ (n := 8) (S := fun w' => w'.cell? ⟨gb115, 0, none⟩ = some (.slice A0_0 l0_0.length c0_0) ∧ w'.cell? ⟨gb115, 1, none⟩ = some (.slice A0_1 l0_1.length c0_1) ∧ w'.cell? ⟨gb115, 2, none⟩ = some (.int .i64 a0_2) ∧ w'.cell? (ad116.add (x9_1).toNat) = some (.string (rdOf ByteArray.empty l2 x9_1))) (ds := []) #[false, false, false, false, false, false, false, false] (by kernel_rfl) rfl rfl ⟨(blk_cell BK115.out 0).trans rfl, (blk_cell BK115.out 1).trans rfl, (blk_cell BK115.out 2).trans rfl, ((HB.out.cell (World.block_lt_of_cell? w _ hw116_0)).trans hw116_0)⟩ (fun hHeld => ?_); refine with_tabW transomref16_Way.tab5 transomref16_Way.bits5 (fun HT_ HW_ => ?_)
            generalize wr.drew = w9 at HO_8 BK115 HB hx116_0 hHeld ⊢
            refine pure_ (i := 1) (N := some 19) (v := ?_) (a' := ?_) #[false, true, false, false, false, false, false, false] rfl rfl (any_of HT_.out (by kernel_rfl)) (fun _ _ _ h => h) (Or.inl ⟨by rfl, ?_⟩) ?_ ?_
            rotate_left
            · intro w'
              go_simp
              with_reducible rfl
            rotate_left
            · simp only [Act.put, List.setIfInBounds_toArray, List.set_cons_zero, List.set_cons_succ, i64_w, i32_w]
              rfl
            refine pure_ (i := 2) (N := some 20) (v := ?_) (a' := ?_) #[false, true, true, false, false, false, false, false] rfl rfl (any_of HT_.out (by kernel_rfl)) (fun _ _ _ h => h) (Or.inl ⟨by rfl, ?_⟩) ?_ ?_
            rotate_left
            · intro w'
              go_simp
              with_reducible rfl
            rotate_left
            · simp only [Act.put, List.setIfInBounds_toArray, List.set_cons_zero, List.set_cons_succ, i64_w, i32_w]
              rfl
            refine pure_ (i := 3) (N := some 21) (v := ?_) (a' := ?_) #[false, true, true, true, false, false, false, false] rfl rfl (any_of HT_.out (by kernel_rfl)) (fun _ _ _ h => h) (Or.inl ⟨by rfl, ?_⟩) ?_ ?_
            rotate_left
            · intro w'
              go_simp
              with_reducible rfl
            rotate_left
            · simp only [Act.put, List.setIfInBounds_toArray, List.set_cons_zero, List.set_cons_succ, i64_w, i32_w]
              rfl
            refine pure_ (i := 4) (N := some 22) (v := ?_) (a' := ?_) #[false, true, true, true, true, false, false, false] rfl rfl (any_of HT_.out (by kernel_rfl)) (fun _ _ _ h => h) (Or.inl ⟨by rfl, ?_⟩) ?_ ?_
            rotate_left
            · intro w'
              go_simp
              with_reducible rfl
            rotate_left
            · simp only [Act.put, List.setIfInBounds_toArray, List.set_cons_zero, List.set_cons_succ, i64_w, i32_w]
              rfl
            refine take_ (i := 0) (N := some 18) (v := ?_) (a' := ?_) #[true, true, true, true, true, false, false, false] rfl rfl (take_ofW HT_.out HW_.out (by kernel_rfl)) (fun _ _ _ h => h) (Or.inl ⟨by rfl, ?_⟩) hHeld ?_ ?_
            rotate_left
            · rintro w' ⟨s0, s1, s2, s3⟩
              go_simp
              with_reducible rfl
            rotate_left
            · simp only [Act.put, List.setIfInBounds_toArray, List.set_cons_zero, List.set_cons_succ, i64_w, i32_w]
              rfl
            refine take_ (i := 5) (N := some 23) (v := ?_) (a' := ?_) #[true, true, true, true, true, true, false, false] rfl rfl (take_ofW HT_.out HW_.out (by kernel_rfl)) (fun _ _ _ h => h) (Or.inl ⟨by rfl, ?_⟩) hHeld ?_ ?_
            rotate_left
            · rintro w' ⟨s0, s1, s2, s3⟩
              go_simp
              with_reducible rfl
            rotate_left
            · simp only [Act.put, List.setIfInBounds_toArray, List.set_cons_zero, List.set_cons_succ, i64_w, i32_w]
              rfl
            refine one_ (i := 6) (N := some 24) #[true, true, true, true, true, true, true, false] rfl rfl (one_of HT_.out (by kernel_rfl)) (by decide) (fun K hK => ?_)
            refine goes_ Tryd.func44 (by kernel_rfl) rfl #[.agg #[.slice A0_0 l0_0.length c0_0, .slice A0_1 l0_1.length c0_1, .int .i64 a0_2], .int .i64 x1_1, .string (rdOf ByteArray.empty l2 x9_1)] (by rfl) rfl rfl (by (try simp only [List.map_toArray, List.map_cons, List.map_nil]); first | done | rfl | (simp only [List.length_drop, List.length_take]; rfl)) ?_
            with_reducible refine (transomref16_Find.calls k1 _ _ l0_0 _ _ l0_1 a0_2 x1_1 (rdOf ByteArray.empty l2 x9_1) t117 _ ?side1 ?side2 ?side3 ?side4 A7.out).mono ?_
            (case side1 => repeat (first | exact (Kd.C_below HR0_0.out HB.out) | (with_reducible refine Kd.C_alloc ?_ _) | (with_reducible refine Kd.C_drewN ?_ _) | (with_reducible refine Kd.C_drew ?_)))
            (case side2 => exact HC0_0.out)
            (case side3 => repeat (first | exact (Kd.C_below HR0_1.out HB.out) | (with_reducible refine Kd.C_alloc ?_ _) | (with_reducible refine Kd.C_drewN ?_ _) | (with_reducible refine Kd.C_drew ?_)))
            (case side4 => exact HC0_1.out)
            rintro e w10 ⟨rfl, hb⟩
            refine ⟨_, rfl, ?_⟩
            have n0_ := Aside0.mk (Kd.R_below (by (with_reducible repeat (first | apply Kd.R_alloc | apply Kd.R_drewN | apply Kd.R_drew)); exact HO_8.out) hb)
            have n1_ := Aside0.mk (blk_below (g := gb115) (o := .cells #[.slice A0_0 l0_0.length c0_0, .slice A0_1 l0_1.length c0_1, .int .i64 a0_2] 32 (0, 0)) (by (with_reducible repeat (first | refine blk_drewN ?_ _ | refine blk_drew ?_ | refine blk_alloc ?_ _)); exact BK115.out) hb)
            have n2_ := Aside0.mk (below_step (by repeat (first | (with_reducible first | exact HB.out | apply below_alloc | apply pw_below_drewN | apply below_drew1 | refine below_set ?_ GE115.out) | exact HB.out)) hb)
            clear HO_8
            clear BK115
            clear HB
            have HO_8 := n0_
            have BK115 := n1_
            have HB := n2_
            clear n0_ n1_ n2_
            (try clear hb)
            (try clear hb2)
            (try clear hk)
            (try clear hi)
            refine hK.out _ _ ⟨(blk_cell BK115.out 0).trans rfl, (blk_cell BK115.out 1).trans rfl, (blk_cell BK115.out 2).trans rfl, ((HB.out.cell (World.block_lt_of_cell? w _ hw116_0)).trans hw116_0)⟩ (fun hHeld => ?_)
            clear hK K
            refine norm_ (a' := ?_) ?_ ?_
            rotate_left
            · show Act.put _ (some 24) _ = _
              simp only [Act.put, List.setIfInBounds_toArray, List.set_cons_zero, List.set_cons_succ, i64_w, i32_w]
              rfl
            refine pure_ (i := 7) (N := some 10) (v := ?_) (a' := ?_) #[true, true, true, true, true, true, true, true] rfl rfl (any_of HT_.out (by kernel_rfl)) (fun _ _ _ h => h) (Or.inl ⟨by rfl, ?_⟩) ?_ ?_
            rotate_left
            · intro w'
              go_simp
              with_reducible rfl
            rotate_left
            · simp only [Act.put, List.setIfInBounds_toArray, List.set_cons_zero, List.set_cons_succ, i64_w, i32_w]
              rfl
            refine done_ (done_of HT_.out (by kernel_rfl)) ?_
            try go_wp2
            go_ret2
            exact ⟨_, by first | rfl | (simp [errW_none, errW_some] <;> rfl) | (simp [*, errW_none, errW_some] <;> rfl), by first | exact Kd.R_nil _ _ _ _ _ | exact Kd.Q_nil _ _ _ _ _ | exact Kd.S_nil _ _ _ _ _, by repeat (first | (with_reducible first | exact HB.out | apply below_alloc | apply pw_below_drewN | apply below_drew1 | refine below_set ?_ GE115.out) | exact HB.out)⟩
          · rw [if_neg c8] at H
            have c8b0 : decide (t117 < 0) = false := decide_eq_false c8
            clear c8
            by_cases c11 : x8_1.length < 17592186044416
            · rw [if_pos c11] at H
              have LMc11 := Aside0.mk c11
              clear c11
              obtain ⟨y118, hy118⟩ : ∃ y_ : List Int, y_ = (x8_1 ++ [t117]) := ⟨_, rfl⟩
              replace H : (if 0 ≤ x1_1 then (if x1_1 < (l0_0.length : Int) then (if 0 ≤ t117 then (if t117 < (((rd_T82 l0_0 x1_1).f1).length : Int) then (if (wrap64 (x9_1 + 1)) < (l2.length : Int) then (transomref16_Way.j1 k1 x1_1 l2 y118 x9_1 (((rd_T79 ((rd_T82 l0_0 x1_1).f1) t117).f1.f0) != 13) l0_0 l0_1 a0_2 ((rd_T79 ((rd_T82 l0_0 x1_1).f1) t117).f1.f0) ((rd_T79 ((rd_T82 l0_0 x1_1).f1) t117).f1.f1) ((rd_T79 ((rd_T82 l0_0 x1_1).f1) t117).f1.f2)) else (transomref16_Way.j1 k1 x1_1 l2 y118 x9_1 false l0_0 l0_1 a0_2 ((rd_T79 ((rd_T82 l0_0 x1_1).f1) t117).f1.f0) ((rd_T79 ((rd_T82 l0_0 x1_1).f1) t117).f1.f1) ((rd_T79 ((rd_T82 l0_0 x1_1).f1) t117).f1.f2))) else (none)) else (none)) else (none)) else (none)) = some (r1, r2) := by first | (rw [hy118]; with_reducible exact H) | (have H2_ := (Option.bind_some _ _).symm.trans H; rw [hy118]; with_reducible exact H2_) | (have H2_ := (Option.bind_some _ _).symm.trans H; with_reducible exact H2_) | with_reducible exact H | (rw [hy118]; exact H) | exact H
              have Ny118 := Aside0.mk hy118
              clear hy118
              by_cases c12 : 0 ≤ x1_1
              · rw [if_pos c12] at H
                have c12b0 : decide (0 ≤ x1_1) = true := decide_eq_true c12
                clear c12
                by_cases c13 : x1_1 < (l0_0.length : Int)
                · rw [if_pos c13] at H
                  have c13b0 : decide (x1_1 < (l0_0.length : Int)) = true := decide_eq_true c13
                  clear c13
                  by_cases c14 : 0 ≤ t117
                  · rw [if_pos c14] at H
                    have c14b0 : decide (0 ≤ t117) = true := decide_eq_true c14
                    clear c14
                    by_cases c15 : t117 < (((rd_T82 l0_0 x1_1).f1).length : Int)
                    · rw [if_pos c15] at H
                      have c15b0 : decide (t117 < (((rd_T82 l0_0 x1_1).f1).length : Int)) = true := decide_eq_true c15
                      clear c15
                      have HC16 := Aside0.mk H
                      clear H
                      try go_wp2
                      have n0_ := Aside0.mk (Kd.R_drew HO_8.out)
                      have n1_ := Aside0.mk (blk_drew BK115.out)
                      have n2_ := Aside0.mk (below_drew1 HB.out)
                      clear HO_8
                      clear BK115
                      clear HB
                      have HO_8 := n0_
                      have BK115 := n1_
                      have HB := n2_
                      clear n0_ n1_ n2_
                      have p116 : 0 ≤ (x9_1 : Int) := of_decide_eq_true (by first | (with_reducible assumption) | assumption)
                      have q116 : x9_1 < (l2.length : Int) := of_decide_eq_true (by first | (with_reducible assumption) | assumption)
                      obtain ⟨ad116, e116, hx116_0⟩ := Kd.at_string HR2.out x9_1 p116 q116
                      have hw116_0 := hx116_0
                      cases e116
                      replace hx116_0 := (HB.out.cell (World.block_lt_of_cell? w _ hx116_0)).trans hx116_0
                      replace p116 := eq_true p116
                      replace q116 := eq_true q116
                      refine start_ (n := 8) (S := fun w' => w'.cell? ⟨gb115, 0, none⟩ = some (.slice A0_0 l0_0.length c0_0) ∧ w'.cell? ⟨gb115, 1, none⟩ = some (.slice A0_1 l0_1.length c0_1) ∧ w'.cell? ⟨gb115, 2, none⟩ = some (.int .i64 a0_2) ∧ w'.cell? (ad116.add (x9_1).toNat) = some (.string (rdOf ByteArray.empty l2 x9_1))) (ds := []) #[false, false, false, false, false, false, false, false] (by kernel_rfl) rfl rfl ⟨(blk_cell BK115.out 0).trans rfl, (blk_cell BK115.out 1).trans rfl, (blk_cell BK115.out 2).trans rfl, ((HB.out.cell (World.block_lt_of_cell? w _ hw116_0)).trans hw116_0)⟩ (fun hHeld => ?_); refine with_tabW transomref16_Way.tab5 transomref16_Way.bits5 (fun HT_ HW_ => ?_)
                      generalize wr.drew = w17 at HO_8 BK115 HB hx116_0 hHeld ⊢
                      refine pure_ (i := 1) (N := some 19) (v := ?_) (a' := ?_) #[false, true, false, false, false, false, false, false] rfl rfl (any_of HT_.out (by kernel_rfl)) (fun _ _ _ h => h) (Or.inl ⟨by rfl, ?_⟩) ?_ ?_
                      rotate_left
                      · intro w'
                        go_simp
                        with_reducible rfl
                      rotate_left
                      · simp only [Act.put, List.setIfInBounds_toArray, List.set_cons_zero, List.set_cons_succ, i64_w, i32_w]
                        rfl
                      refine pure_ (i := 2) (N := some 20) (v := ?_) (a' := ?_) #[false, true, true, false, false, false, false, false] rfl rfl (any_of HT_.out (by kernel_rfl)) (fun _ _ _ h => h) (Or.inl ⟨by rfl, ?_⟩) ?_ ?_
                      rotate_left
                      · intro w'
                        go_simp
                        with_reducible rfl
                      rotate_left
                      · simp only [Act.put, List.setIfInBounds_toArray, List.set_cons_zero, List.set_cons_succ, i64_w, i32_w]
                        rfl
                      refine pure_ (i := 3) (N := some 21) (v := ?_) (a' := ?_) #[false, true, true, true, false, false, false, false] rfl rfl (any_of HT_.out (by kernel_rfl)) (fun _ _ _ h => h) (Or.inl ⟨by rfl, ?_⟩) ?_ ?_
                      rotate_left
                      · intro w'
                        go_simp
                        with_reducible rfl
                      rotate_left
                      · simp only [Act.put, List.setIfInBounds_toArray, List.set_cons_zero, List.set_cons_succ, i64_w, i32_w]
                        rfl
                      refine pure_ (i := 4) (N := some 22) (v := ?_) (a' := ?_) #[false, true, true, true, true, false, false, false] rfl rfl (any_of HT_.out (by kernel_rfl)) (fun _ _ _ h => h) (Or.inl ⟨by rfl, ?_⟩) ?_ ?_
                      rotate_left
                      · intro w'
                        go_simp
                        with_reducible rfl
                      rotate_left
                      · simp only [Act.put, List.setIfInBounds_toArray, List.set_cons_zero, List.set_cons_succ, i64_w, i32_w]
                        rfl
                      refine take_ (i := 0) (N := some 18) (v := ?_) (a' := ?_) #[true, true, true, true, true, false, false, false] rfl rfl (take_ofW HT_.out HW_.out (by kernel_rfl)) (fun _ _ _ h => h) (Or.inl ⟨by rfl, ?_⟩) hHeld ?_ ?_
                      rotate_left
                      · rintro w' ⟨s0, s1, s2, s3⟩
                        go_simp
                        with_reducible rfl
                      rotate_left
                      · simp only [Act.put, List.setIfInBounds_toArray, List.set_cons_zero, List.set_cons_succ, i64_w, i32_w]
                        rfl
                      refine take_ (i := 5) (N := some 23) (v := ?_) (a' := ?_) #[true, true, true, true, true, true, false, false] rfl rfl (take_ofW HT_.out HW_.out (by kernel_rfl)) (fun _ _ _ h => h) (Or.inl ⟨by rfl, ?_⟩) hHeld ?_ ?_
                      rotate_left
                      · rintro w' ⟨s0, s1, s2, s3⟩
                        go_simp
                        with_reducible rfl
                      rotate_left
                      · simp only [Act.put, List.setIfInBounds_toArray, List.set_cons_zero, List.set_cons_succ, i64_w, i32_w]
                        rfl
                      refine one_ (i := 6) (N := some 24) #[true, true, true, true, true, true, true, false] rfl rfl (one_of HT_.out (by kernel_rfl)) (by decide) (fun K hK => ?_)
                      refine goes_ Tryd.func44 (by kernel_rfl) rfl #[.agg #[.slice A0_0 l0_0.length c0_0, .slice A0_1 l0_1.length c0_1, .int .i64 a0_2], .int .i64 x1_1, .string (rdOf ByteArray.empty l2 x9_1)] (by rfl) rfl rfl (by (try simp only [List.map_toArray, List.map_cons, List.map_nil]); first | done | rfl | (simp only [List.length_drop, List.length_take]; rfl)) ?_
                      with_reducible refine (transomref16_Find.calls k1 _ _ l0_0 _ _ l0_1 a0_2 x1_1 (rdOf ByteArray.empty l2 x9_1) t117 _ ?side1 ?side2 ?side3 ?side4 A7.out).mono ?_
                      (case side1 => repeat (first | exact (Kd.C_below HR0_0.out HB.out) | (with_reducible refine Kd.C_alloc ?_ _) | (with_reducible refine Kd.C_drewN ?_ _) | (with_reducible refine Kd.C_drew ?_)))
                      (case side2 => exact HC0_0.out)
                      (case side3 => repeat (first | exact (Kd.C_below HR0_1.out HB.out) | (with_reducible refine Kd.C_alloc ?_ _) | (with_reducible refine Kd.C_drewN ?_ _) | (with_reducible refine Kd.C_drew ?_)))
                      (case side4 => exact HC0_1.out)
                      rintro e w18 ⟨rfl, hb⟩
                      refine ⟨_, rfl, ?_⟩
                      have n0_ := Aside0.mk (Kd.R_below (by (with_reducible repeat (first | apply Kd.R_alloc | apply Kd.R_drewN | apply Kd.R_drew)); exact HO_8.out) hb)
                      have n1_ := Aside0.mk (blk_below (g := gb115) (o := .cells #[.slice A0_0 l0_0.length c0_0, .slice A0_1 l0_1.length c0_1, .int .i64 a0_2] 32 (0, 0)) (by (with_reducible repeat (first | refine blk_drewN ?_ _ | refine blk_drew ?_ | refine blk_alloc ?_ _)); exact BK115.out) hb)
                      have n2_ := Aside0.mk (below_step (by repeat (first | (with_reducible first | exact HB.out | apply below_alloc | apply pw_below_drewN | apply below_drew1 | refine below_set ?_ GE115.out) | exact HB.out)) hb)
                      clear HO_8
                      clear BK115
                      clear HB
                      have HO_8 := n0_
                      have BK115 := n1_
                      have HB := n2_
                      clear n0_ n1_ n2_
                      (try clear hb)
                      (try clear hb2)
                      (try clear hk)
                      (try clear hi)
                      refine hK.out _ _ ⟨(blk_cell BK115.out 0).trans rfl, (blk_cell BK115.out 1).trans rfl, (blk_cell BK115.out 2).trans rfl, ((HB.out.cell (World.block_lt_of_cell? w _ hw116_0)).trans hw116_0)⟩ (fun hHeld => ?_)
                      clear hK K
                      refine norm_ (a' := ?_) ?_ ?_
                      rotate_left
                      · show Act.put _ (some 24) _ = _
                        simp only [Act.put, List.setIfInBounds_toArray, List.set_cons_zero, List.set_cons_succ, i64_w, i32_w]
                        rfl
                      refine pure_ (i := 7) (N := some 10) (v := ?_) (a' := ?_) #[true, true, true, true, true, true, true, true] rfl rfl (any_of HT_.out (by kernel_rfl)) (fun _ _ _ h => h) (Or.inl ⟨by rfl, ?_⟩) ?_ ?_
                      rotate_left
                      · intro w'
                        go_simp
                        with_reducible rfl
                      rotate_left
                      · simp only [Act.put, List.setIfInBounds_toArray, List.set_cons_zero, List.set_cons_succ, i64_w, i32_w]
                        rfl
                      refine done_ (done_of HT_.out (by kernel_rfl)) ?_
                      go_upto_region 10 with (first | ((with_reducible refine gateB (b := .append) (xs := #[.tmp 27, .tmp 29]) rfl ?_); at_builtin; refine Kd.R_append (Kd.int .i64) (w0 := w) w.heap.size rfl (.tmp 27) (.tmp 29) 27 3 (.int .i64 0) 8 rfl Tryd.underlying27 info3 rfl (by decide) (by omega) u8 x8_1 t117 [.int .i64 t117] (fun _ => True) (fun _ => False) rfl rfl ?aP (fun _ hk => hk.elim) ?aF ?aO ?aB ?aS ?aL ?_; (case aP => exact rfl); (case aB => exact (by repeat (first | (with_reducible first | exact HB.out | apply below_alloc | apply pw_below_drewN | apply below_drew1 | refine below_set ?_ GE115.out) | exact HB.out))); (case aF => exact (fun _ _ => trivial)); (case aO => exact (by (with_reducible repeat (first | apply Kd.R_alloc | apply Kd.R_drewN | apply Kd.R_drew)); exact HO_8.out)); (case aS => exact (below_size (by repeat (first | (with_reducible first | exact HB.out | apply below_alloc | apply pw_below_drewN | apply below_drew1 | refine below_set ?_ GE115.out) | exact HB.out)))); (case aL => have := LMc11.out; omega); intro v119 w19 ho hb hg hat; rw [← Ny118.out] at ho; have n0_ := Aside0.mk (blk_grown (g := gb115) (o := .cells #[.slice A0_0 l0_0.length c0_0, .slice A0_1 l0_1.length c0_1, .int .i64 a0_2] 32 (0, 0)) (by (with_reducible repeat (first | refine blk_drewN ?_ _ | refine blk_drew ?_ | refine blk_alloc ?_ _)); exact BK115.out) hg (Kd.R_ne HO_8.out BK115.out (by decide))); have n1_ := Aside0.mk (hb); have n2_ := Aside0.mk (ho); clear BK115; clear HB; clear HO_8; have BK115 := n0_; have HB := n1_; have HO120 := n2_; clear n0_ n1_ n2_; clear ho hb hg hat; have hcz20_0 : w19.cell? ⟨gb115, 0, none⟩ = some (.slice A0_0 l0_0.length c0_0) := (blk_cell BK115.out 0).trans rfl; have hcz20_1 : w19.cell? ⟨gb115, 1, none⟩ = some (.slice A0_1 l0_1.length c0_1) := (blk_cell BK115.out 1).trans rfl; have hcz20_2 : w19.cell? ⟨gb115, 2, none⟩ = some (.int .i64 a0_2) := (blk_cell BK115.out 2).trans rfl; have hfz20_0 := blk_frozen BK115.out 0; have hfz20_1 := blk_frozen BK115.out 1; have hfz20_2 := blk_frozen BK115.out 2; have p121 : 0 ≤ (x1_1 : Int) := of_decide_eq_true (by first | (with_reducible assumption) | assumption); have q121 : x1_1 < (l0_0.length : Int) := of_decide_eq_true (by first | (with_reducible assumption) | assumption); obtain ⟨ad121, A121_1, c121_1, e121, hx121_0, hx121_1, hl121_1, hi121_1⟩ := at_T82 HR0_0.out x1_1 p121 q121; cases e121; replace hx121_0 := (HB.out.cell (World.block_lt_of_cell? w _ hx121_0)).trans hx121_0; replace hx121_1 := (HB.out.cell (World.block_lt_of_cell? w _ hx121_1)).trans hx121_1; have HR121_1 := Aside0.mk hi121_1; have HC121_1 := Aside0.mk hl121_1; clear hi121_1 hl121_1; replace p121 := eq_true p121; replace q121 := eq_true q121; have p122 : 0 ≤ (t117 : Int) := of_decide_eq_true (by first | (with_reducible assumption) | assumption); have q122 : t117 < (((rd_T82 l0_0 x1_1).f1).length : Int) := of_decide_eq_true (by first | (with_reducible assumption) | assumption); obtain ⟨ad122, e122, hx122_0, hx122_1, hx122_2, hx122_3, hx122_4⟩ := at_T79 HR121_1.out t117 p122 q122; cases e122; replace hx122_0 := (HB.out.cell (World.block_lt_of_cell? w _ hx122_0)).trans hx122_0; replace hx122_1 := (HB.out.cell (World.block_lt_of_cell? w _ hx122_1)).trans hx122_1; replace hx122_2 := (HB.out.cell (World.block_lt_of_cell? w _ hx122_2)).trans hx122_2; replace hx122_3 := (HB.out.cell (World.block_lt_of_cell? w _ hx122_3)).trans hx122_3; replace hx122_4 := (HB.out.cell (World.block_lt_of_cell? w _ hx122_4)).trans hx122_4; replace p122 := eq_true p122; replace q122 := eq_true q122) | ((with_reducible refine gate_dst (N := 11) rfl ?_); refine box_event ?hg (N := 11) ?hd (cs := #[.int .u8 0, .int .i64 0, .int .i64 0]) (t := 49) ?hr ?_; (case hd => rfl); (case hg => rfl); (case hr => first | (go_simp; done) | (go_simp; rfl)); intro gb123 hg w21 hbox hb; have n0_ := Aside0.mk (Kd.R_below (by (with_reducible repeat (first | apply Kd.R_alloc | apply Kd.R_drewN | apply Kd.R_drew)); exact HO120.out) hb); have n1_ := Aside0.mk (blk_below (g := gb115) (o := .cells #[.slice (some ad121) l0_0.length c0_0, .slice A0_1 l0_1.length c0_1, .int .i64 a0_2] 32 (0, 0)) (by (with_reducible repeat (first | refine blk_drewN ?_ _ | refine blk_drew ?_ | refine blk_alloc ?_ _)); exact BK115.out) hb); have n2_ := Aside0.mk (below_step (by repeat (first | (with_reducible first | exact HB.out | apply below_alloc | apply pw_below_drewN | apply below_drew1 | refine below_set ?_ GE115.out) | exact HB.out)) hb); have n3_ := Aside0.mk (hbox); have n4_ := Aside0.mk ((by rw [hg]; exact (below_size (by repeat (first | (with_reducible first | exact HB.out | apply below_alloc | apply pw_below_drewN | apply below_drew1 | refine below_set ?_ GE115.out) | exact HB.out))) : w.heap.size ≤ gb123)); have n5_ := Aside0.mk ((by rw [hg]; exact (below_size (by repeat (first | (with_reducible first | exact HB.out | apply below_alloc | apply pw_below_drewN | apply below_drew1 | refine below_set ?_ GE115.out) | exact HB.out))) : w.heap.size ≤ gb123)); have n6_ := Aside0.mk ((by rw [hg]; exact Nat.ne_of_lt (blk_lt (g := gb115) (o := .cells #[.slice (some ad121) l0_0.length c0_0, .slice A0_1 l0_1.length c0_1, .int .i64 a0_2] 32 (0, 0)) (by (with_reducible repeat (first | refine blk_drewN ?_ _ | refine blk_drew ?_ | refine blk_alloc ?_ _)); exact BK115.out)) : gb115 ≠ gb123)); have n7_ := Aside0.mk ((by rw [hg]; exact Nat.ne_of_gt (blk_lt (g := gb115) (o := .cells #[.slice (some ad121) l0_0.length c0_0, .slice A0_1 l0_1.length c0_1, .int .i64 a0_2] 32 (0, 0)) (by (with_reducible repeat (first | refine blk_drewN ?_ _ | refine blk_drew ?_ | refine blk_alloc ?_ _)); exact BK115.out)) : gb123 ≠ gb115)); clear HO120; clear BK115; clear HB; have HO120 := n0_; have BK115 := n1_; have HB := n2_; have BK123 := n3_; have GW123 := n4_; have GE123 := n5_; have NB115_123 := n6_; have NB123_115 := n7_; clear n0_ n1_ n2_ n3_ n4_ n5_ n6_ n7_; clear hb hbox hg; have hnb22 := NB123_115.out; have hnc22 := NB115_123.out; have hcz23_0 : w21.cell? ⟨gb123, 0, none⟩ = some (.int .u8 0) := (blk_cell BK123.out 0).trans rfl; have hcz23_1 : w21.cell? ⟨gb123, 1, none⟩ = some (.int .i64 0) := (blk_cell BK123.out 1).trans rfl; have hcz23_2 : w21.cell? ⟨gb123, 2, none⟩ = some (.int .i64 0) := (blk_cell BK123.out 2).trans rfl; have hfz23_0 := blk_frozen BK123.out 0; have hfz23_1 := blk_frozen BK123.out 1; have hfz23_2 := blk_frozen BK123.out 2))
                      (try simp only [Act.put, List.setIfInBounds_toArray, List.set_cons_zero, List.set_cons_succ])
                      go_cut [50] (fun v50 wc => ∃ (kq : Nat) (x50_15 : Bool), v50 = .bool x50_15 ∧ Aside0 (transomref16_Way.j1 kq x1_1 l2 y118 x9_1 x50_15 l0_0 l0_1 a0_2 ((rd_T79 ((rd_T82 l0_0 x1_1).f1) t117).f1.f0) ((rd_T79 ((rd_T82 l0_0 x1_1).f1) t117).f1.f1) ((rd_T79 ((rd_T82 l0_0 x1_1).f1) t117).f1.f2) = some (r1, r2)) ∧ Aside0 (kq ≤ k1) ∧ Aside0 (Kd.R (Kd.int .i64) 3 wc w.heap.size (fun _ => True) v119 y118) ∧ Aside0 (wc.heap[gb115]? = some (.cells #[(.slice (some ad121) l0_0.length c0_0), (.slice A0_1 l0_1.length c0_1), .int .i64 a0_2] 32 (0, 0))) ∧ Aside0 (wc.heap[gb123]? = some (.cells #[.int .u8 ((rd_T79 ((rd_T82 l0_0 x1_1).f1) t117).f1.f0), .int .i64 ((rd_T79 ((rd_T82 l0_0 x1_1).f1) t117).f1.f1), .int .i64 ((rd_T79 ((rd_T82 l0_0 x1_1).f1) t117).f1.f2)] 49 (0, 0))) ∧ Aside0 (Below w.heap.size w wc))
                      case first =>
                        have H := HC16.out
                        clear HC16
                        by_cases c24 : (wrap64 (x9_1 + 1)) < (l2.length : Int)
                        · rw [if_pos c24] at H
                          have c24b0 : decide ((wrap64 (x9_1 + 1)) < (l2.length : Int)) = true := decide_eq_true c24
                          clear c24
                          (first | rw [c24b0] | (simp only [i64_w, i32_w]; rw [c24b0]) | skip)
                          have H' := Aside0.mk H
                          clear H
                          have hnb25 := NB123_115.out
                          have hnc25 := NB115_123.out
                          have hcz26_0 : w21.cell? ⟨gb123, 0, none⟩ = some (.int .u8 0) := (blk_cell BK123.out 0).trans rfl
                          have hcz26_1 : w21.cell? ⟨gb123, 1, none⟩ = some (.int .i64 0) := (blk_cell BK123.out 1).trans rfl
                          have hcz26_2 : w21.cell? ⟨gb123, 2, none⟩ = some (.int .i64 0) := (blk_cell BK123.out 2).trans rfl
                          have hfz26_0 := blk_frozen BK123.out 0
                          have hfz26_1 := blk_frozen BK123.out 1
                          have hfz26_2 := blk_frozen BK123.out 2
                          go_wp2
                          go_meet
                          case rel => exact ⟨_, ((((rd_T79 ((rd_T82 l0_0 x1_1).f1) t117).f1.f0) != 13)), (by first | rfl | (simp; done) | (simp [*]; done)), H', ⟨by have := HK1.out; first | omega | exact Nat.le_refl _⟩, ⟨by (with_reducible repeat (first | apply Kd.R_alloc | apply Kd.R_drewN | apply Kd.R_drew)); exact Kd.R_mono (Kd.R_far (p := ⟨gb123, 2, none⟩) (Kd.R_far (p := ⟨gb123, 1, none⟩) (Kd.R_far (p := ⟨gb123, 0, none⟩) (Kd.R_types HO120.out BK123.out (by decide)) (fun _ hk => hk.2) (.int .u8 ((rd_T79 ((rd_T82 l0_0 x1_1).f1) t117).f1.f0))) (fun _ hk => hk.2) (.int .i64 ((rd_T79 ((rd_T82 l0_0 x1_1).f1) t117).f1.f1))) (fun _ hk => hk.2) (.int .i64 ((rd_T79 ((rd_T82 l0_0 x1_1).f1) t117).f1.f2))) (fun _ hk => trivial)⟩, ⟨by (with_reducible repeat (first | refine blk_drewN ?_ _ | refine blk_drew ?_ | refine blk_alloc ?_ _)); refine blk_far ?_ NB115_123.out _; (with_reducible repeat (first | refine blk_drewN ?_ _ | refine blk_drew ?_ | refine blk_alloc ?_ _)); refine blk_far ?_ NB115_123.out _; (with_reducible repeat (first | refine blk_drewN ?_ _ | refine blk_drew ?_ | refine blk_alloc ?_ _)); refine blk_far ?_ NB115_123.out _; (with_reducible repeat (first | refine blk_drewN ?_ _ | refine blk_drew ?_ | refine blk_alloc ?_ _)); exact BK115.out⟩, ⟨by (with_reducible repeat (first | refine blk_drewN ?_ _ | refine blk_drew ?_ | refine blk_alloc ?_ _)); refine blk_put (cs := #[.int .u8 ((rd_T79 ((rd_T82 l0_0 x1_1).f1) t117).f1.f0), .int .i64 ((rd_T79 ((rd_T82 l0_0 x1_1).f1) t117).f1.f1), .int .i64 0]) ?_ 2 _ rfl; (with_reducible repeat (first | refine blk_drewN ?_ _ | refine blk_drew ?_ | refine blk_alloc ?_ _)); refine blk_put (cs := #[.int .u8 ((rd_T79 ((rd_T82 l0_0 x1_1).f1) t117).f1.f0), .int .i64 0, .int .i64 0]) ?_ 1 _ rfl; (with_reducible repeat (first | refine blk_drewN ?_ _ | refine blk_drew ?_ | refine blk_alloc ?_ _)); refine blk_put (cs := #[.int .u8 0, .int .i64 0, .int .i64 0]) ?_ 0 _ rfl; (with_reducible repeat (first | refine blk_drewN ?_ _ | refine blk_drew ?_ | refine blk_alloc ?_ _)); exact BK123.out⟩, ⟨by repeat (first | (with_reducible first | exact HB.out | apply below_alloc | apply pw_below_drewN | apply below_drew1 | refine below_set ?_ GE115.out | refine below_set ?_ GE123.out) | exact HB.out)⟩⟩
                        · rw [if_neg c24] at H
                          have c24b0 : decide ((wrap64 (x9_1 + 1)) < (l2.length : Int)) = false := decide_eq_false c24
                          clear c24
                          (first | rw [c24b0] | (simp only [i64_w, i32_w]; rw [c24b0]) | skip)
                          have H' := Aside0.mk H
                          clear H
                          go_wp2
                          go_meet
                          case rel => exact ⟨_, (false), (by first | rfl | (simp; done) | (simp [*]; done)), H', ⟨by have := HK1.out; first | omega | exact Nat.le_refl _⟩, ⟨by (with_reducible repeat (first | apply Kd.R_alloc | apply Kd.R_drewN | apply Kd.R_drew)); exact Kd.R_mono (Kd.R_far (p := ⟨gb123, 2, none⟩) (Kd.R_far (p := ⟨gb123, 1, none⟩) (Kd.R_far (p := ⟨gb123, 0, none⟩) (Kd.R_types HO120.out BK123.out (by decide)) (fun _ hk => hk.2) (.int .u8 ((rd_T79 ((rd_T82 l0_0 x1_1).f1) t117).f1.f0))) (fun _ hk => hk.2) (.int .i64 ((rd_T79 ((rd_T82 l0_0 x1_1).f1) t117).f1.f1))) (fun _ hk => hk.2) (.int .i64 ((rd_T79 ((rd_T82 l0_0 x1_1).f1) t117).f1.f2))) (fun _ hk => trivial)⟩, ⟨by (with_reducible repeat (first | refine blk_drewN ?_ _ | refine blk_drew ?_ | refine blk_alloc ?_ _)); refine blk_far ?_ NB115_123.out _; (with_reducible repeat (first | refine blk_drewN ?_ _ | refine blk_drew ?_ | refine blk_alloc ?_ _)); refine blk_far ?_ NB115_123.out _; (with_reducible repeat (first | refine blk_drewN ?_ _ | refine blk_drew ?_ | refine blk_alloc ?_ _)); refine blk_far ?_ NB115_123.out _; (with_reducible repeat (first | refine blk_drewN ?_ _ | refine blk_drew ?_ | refine blk_alloc ?_ _)); exact BK115.out⟩, ⟨by (with_reducible repeat (first | refine blk_drewN ?_ _ | refine blk_drew ?_ | refine blk_alloc ?_ _)); refine blk_put (cs := #[.int .u8 ((rd_T79 ((rd_T82 l0_0 x1_1).f1) t117).f1.f0), .int .i64 ((rd_T79 ((rd_T82 l0_0 x1_1).f1) t117).f1.f1), .int .i64 0]) ?_ 2 _ rfl; (with_reducible repeat (first | refine blk_drewN ?_ _ | refine blk_drew ?_ | refine blk_alloc ?_ _)); refine blk_put (cs := #[.int .u8 ((rd_T79 ((rd_T82 l0_0 x1_1).f1) t117).f1.f0), .int .i64 0, .int .i64 0]) ?_ 1 _ rfl; (with_reducible repeat (first | refine blk_drewN ?_ _ | refine blk_drew ?_ | refine blk_alloc ?_ _)); refine blk_put (cs := #[.int .u8 0, .int .i64 0, .int .i64 0]) ?_ 0 _ rfl; (with_reducible repeat (first | refine blk_drewN ?_ _ | refine blk_drew ?_ | refine blk_alloc ?_ _)); exact BK123.out⟩, ⟨by repeat (first | (with_reducible first | exact HB.out | apply below_alloc | apply pw_below_drewN | apply below_drew1 | refine below_set ?_ GE115.out | refine below_set ?_ GE123.out) | exact HB.out)⟩⟩
                      case rest =>
                        clear HC16
                        try clear c1
                        try clear p1
                        try clear q1
                        try clear hx1
                        try clear c2
                        try clear p2
                        try clear c3
                        try clear c4
                        try clear c5
                        try clear c5b0
                        try clear c6
                        try clear c6b0
                        try clear p6
                        try clear c8
                        try clear c8b0
                        try clear c11
                        try clear p11
                        try clear q11
                        try clear hx11
                        try clear c12
                        try clear c12b0
                        try clear p12
                        try clear q12
                        try clear hx12
                        try clear c13
                        try clear c13b0
                        try clear c14
                        try clear c14b0
                        try clear c15
                        try clear c15b0
                        try clear c22
                        try clear c24
                        try clear c24b0
                        try clear c25
                        try clear hcz20_0
                        try clear hcz20_1
                        try clear hcz20_2
                        try clear hcz23_0
                        try clear hcz23_1
                        try clear hcz23_2
                        try clear hcz26_0
                        try clear hcz26_1
                        try clear hcz26_2
                        try clear hfz20_0
                        try clear hfz20_1
                        try clear hfz20_2
                        try clear hfz23_0
                        try clear hfz23_1
                        try clear hfz23_2
                        try clear hfz26_0
                        try clear hfz26_1
                        try clear hfz26_2
                        try clear hx116_0
                        try clear hx121_0
                        try clear hx121_1
                        try clear hx122_0
                        try clear hx122_1
                        try clear hx122_2
                        try clear hx122_3
                        try clear hx122_4
                        try clear p116
                        try clear p121
                        try clear p122
                        try clear p2
                        try clear q116
                        try clear q121
                        try clear q122
                        obtain ⟨kq, x50_15, rfl, HA, HJ15, HO_8, BK115, BK123, HB⟩ := hcut
                        cases kq with
                        | zero => exact absurd HA.out (by simp [transomref16_Way.j1])
                        | succ kj15 =>
                          have H := HA.out
                          clear HA
                          simp only [transomref16_Way.j1] at H
                          by_cases c27 : x50_15 = true
                          · subst c27
                            have H1 : (some (([] : List Int), false)) = some (r1, r2) := by rw [if_pos rfl] at H; exact H
                            clear H
                            have H := H1
                            clear H1
                            simp only [Option.some.injEq, Prod.mk.injEq] at H
                            obtain ⟨rfl, rfl⟩ := H
                            go_wp2
                            go_ret2
                            exact ⟨_, by first | rfl | (simp [errW_none, errW_some] <;> rfl) | (simp [*, errW_none, errW_some] <;> rfl), by first | exact Kd.R_nil _ _ _ _ _ | exact Kd.Q_nil _ _ _ _ _ | exact Kd.S_nil _ _ _ _ _, by repeat (first | (with_reducible first | exact HB.out | apply below_alloc | apply pw_below_drewN | apply below_drew1 | refine below_set ?_ GE115.out | refine below_set ?_ GE123.out) | exact HB.out)⟩
                          · replace c27 := Bool.eq_false_iff.mpr c27
                            subst c27
                            have H1 : (if ((rd_T79 ((rd_T82 l0_0 x1_1).f1) t117).f1.f0) = 13 then (transomref16_Way.l0 kj15 ((rd_T79 ((rd_T82 l0_0 x1_1).f1) t117).f1.f1) l2 y118 (wrap64 (x9_1 + 1)) l0_0 l0_1 a0_2) else (transomref16_Way.l0 kj15 x1_1 l2 y118 (wrap64 (x9_1 + 1)) l0_0 l0_1 a0_2)) = some (r1, r2) := by rw [if_neg (show ¬ (false = true) by decide)] at H; exact H
                            clear H
                            have H := H1
                            clear H1
                            by_cases c28 : ((rd_T79 ((rd_T82 l0_0 x1_1).f1) t117).f1.f0) = 13
                            · rw [if_pos c28] at H
                              have c28b0 : (((rd_T79 ((rd_T82 l0_0 x1_1).f1) t117).f1.f0) == 13) = true := beq_iff_eq.mpr c28
                              have c28b1 : (((rd_T79 ((rd_T82 l0_0 x1_1).f1) t117).f1.f0) != 13) = false := bne_eq_false_iff_eq.mpr c28
                              clear c28
                              have H' := Aside0.mk H
                              clear H
                              have hnb29 := NB123_115.out
                              have hnc29 := NB115_123.out
                              have hcz30_0 : wc.cell? ⟨gb123, 0, none⟩ = some (.int .u8 ((rd_T79 ((rd_T82 l0_0 x1_1).f1) t117).f1.f0)) := (blk_cell BK123.out 0).trans rfl
                              have hcz30_1 : wc.cell? ⟨gb123, 1, none⟩ = some (.int .i64 ((rd_T79 ((rd_T82 l0_0 x1_1).f1) t117).f1.f1)) := (blk_cell BK123.out 1).trans rfl
                              have hcz30_2 : wc.cell? ⟨gb123, 2, none⟩ = some (.int .i64 ((rd_T79 ((rd_T82 l0_0 x1_1).f1) t117).f1.f2)) := (blk_cell BK123.out 2).trans rfl
                              have hfz30_0 := blk_frozen BK123.out 0
                              have hfz30_1 := blk_frozen BK123.out 1
                              have hfz30_2 := blk_frozen BK123.out 2
                              go_wp2
                              go_roundg kj15
                              case measure => have := HK1.out; have := HJ15.out; omega
                              case rel => exact ⟨(((rd_T79 ((rd_T82 l0_0 x1_1).f1) t117).f1.f1)), (y118), (wrap64 (x9_1 + 1)), (by first | rfl | (simp; done) | (simp [*]; done)), (by first | rfl | (simp; done) | (simp [*]; done)), H', ⟨by have := HK1.out; have := HJ15.out; omega⟩, ⟨by (with_reducible repeat (first | apply Kd.R_alloc | apply Kd.R_drewN | apply Kd.R_drew)); exact HO_8.out⟩, ⟨by (with_reducible repeat (first | refine blk_drewN ?_ _ | refine blk_drew ?_ | refine blk_alloc ?_ _)); exact BK115.out⟩, ⟨by repeat (first | (with_reducible first | exact HB.out | apply below_alloc | apply pw_below_drewN | apply below_drew1 | refine below_set ?_ GE115.out | refine below_set ?_ GE123.out) | exact HB.out)⟩⟩
                            · rw [if_neg c28] at H
                              have c28b0 : (((rd_T79 ((rd_T82 l0_0 x1_1).f1) t117).f1.f0) == 13) = false := beq_eq_false_iff_ne.mpr c28
                              have c28b1 : (((rd_T79 ((rd_T82 l0_0 x1_1).f1) t117).f1.f0) != 13) = true := bne_iff_ne.mpr c28
                              have H' := Aside0.mk H
                              clear H
                              have hnb31 := NB123_115.out
                              have hnc31 := NB115_123.out
                              have hcz32_0 : wc.cell? ⟨gb123, 0, none⟩ = some (.int .u8 ((rd_T79 ((rd_T82 l0_0 x1_1).f1) t117).f1.f0)) := (blk_cell BK123.out 0).trans rfl
                              have hcz32_1 : wc.cell? ⟨gb123, 1, none⟩ = some (.int .i64 ((rd_T79 ((rd_T82 l0_0 x1_1).f1) t117).f1.f1)) := (blk_cell BK123.out 1).trans rfl
                              have hcz32_2 : wc.cell? ⟨gb123, 2, none⟩ = some (.int .i64 ((rd_T79 ((rd_T82 l0_0 x1_1).f1) t117).f1.f2)) := (blk_cell BK123.out 2).trans rfl
                              have hfz32_0 := blk_frozen BK123.out 0
                              have hfz32_1 := blk_frozen BK123.out 1
                              have hfz32_2 := blk_frozen BK123.out 2
                              go_wp2
                              go_roundg kj15
                              case measure => have := HK1.out; have := HJ15.out; omega
                              case rel => exact ⟨(x1_1), (y118), (wrap64 (x9_1 + 1)), (by first | rfl | (simp; done) | (simp [*]; done)), (by first | rfl | (simp; done) | (simp [*]; done)), H', ⟨by have := HK1.out; have := HJ15.out; omega⟩, ⟨by (with_reducible repeat (first | apply Kd.R_alloc | apply Kd.R_drewN | apply Kd.R_drew)); exact HO_8.out⟩, ⟨by (with_reducible repeat (first | refine blk_drewN ?_ _ | refine blk_drew ?_ | refine blk_alloc ?_ _)); exact BK115.out⟩, ⟨by repeat (first | (with_reducible first | exact HB.out | apply below_alloc | apply pw_below_drewN | apply below_drew1 | refine below_set ?_ GE115.out | refine below_set ?_ GE123.out) | exact HB.out)⟩⟩
                    · rw [if_neg c15] at H
                      exact absurd H (by simp)
                  · rw [if_neg c14] at H
                    exact absurd H (by simp)
                · rw [if_neg c13] at H
                  exact absurd H (by simp)
              · rw [if_neg c12] at H
                exact absurd H (by simp)
            · rw [if_neg c11] at H
              exact absurd H (by simp)
        · rw [if_neg c6] at H
          exact absurd H (by simp)
      · rw [if_neg c5] at H
        have c5b0 : decide (x9_1 < (l2.length : Int)) = false := decide_eq_false c5
        clear c5
        simp only [Option.some.injEq, Prod.mk.injEq] at H
        obtain ⟨rfl, rfl⟩ := H
        obtain ⟨Ao33, co33, eo33⟩ := Kd.R_slice HO_8.out
        subst eo33
        go_wp2
        go_ret2
        exact ⟨_, by first | rfl | (simp [errW_none, errW_some] <;> rfl) | (simp [*, errW_none, errW_some] <;> rfl), by (with_reducible repeat (first | apply Kd.R_alloc | apply Kd.R_drewN | apply Kd.R_drew)); exact HO_8.out, by repeat (first | (with_reducible first | exact HB.out | apply below_alloc | apply pw_below_drewN | apply below_drew1 | refine below_set ?_ GE115.out) | exact HB.out)⟩

end Go.Proofs.YtejpjclbeogajaaDoorP.Pf

-- laid by a program (wip/printf.sh): functions of the program as plain Lean functions, with their contracts
namespace Go.Proofs.YtejpjclbeogajaaDoorP.Pf
open Go.RowKit Go.Proofs.YtejpjclbeogajaaDoorW.PrintWords Go.Proofs.YtejpjclbeogajaaDoorW.PrintLast Go.Proofs.YtejpjclbeogajaaDoor.PwG
set_option linter.unusedVariables false
set_option linter.unusedSimpArgs false

/-! ### transomref16_Policy: function 11 -/
mutual
def transomref16_Policy.j0 : Nat → List (S103) → Bool → List (S82) → List (S85) → Int → Option ((List (List Int)) × Int)
  | 0, _, _, _, _, _ => none
  | k + 1, x6, x27, x125000, x125001, x125002 => if x27 = true then (some (([] : List (List Int)), 33)) else (transomref16_Policy.l0 k x6 ([] : List (List Int)) 0 x125000 x125001 x125002)
def transomref16_Policy.l0 : Nat → List (S103) → List (List Int) → Int → List (S82) → List (S85) → Int → Option ((List (List Int)) × Int)
  | 0, _, _, _, _, _, _ => none
  | k + 1, x6, x9, x10, x125000, x125001, x125002 => if 0 ≤ x10 then (if x10 < (x6.length : Int) then (if ((rd_T103 x6 x10).f0) = 0 then (some (x9, 0)) else (if ((rd_T103 x6 x10).f0) = 1 then (if ((rd_T103 x6 x10).f1).toList = ([104, 105, 100, 101] : List UInt8) then (transomref16_Policy.j2 k x6 x9 x10 (decide ((x9.length : Int) ≥ 16)) x125000 x125001 x125002) else (transomref16_Policy.j2 k x6 x9 x10 true x125000 x125001 x125002)) else (transomref16_Policy.j2 k x6 x9 x10 true x125000 x125001 x125002))) else (none)) else (none)
def transomref16_Policy.j2 : Nat → List (S103) → List (List Int) → Int → Bool → List (S82) → List (S85) → Int → Option ((List (List Int)) × Int)
  | 0, _, _, _, _, _, _, _ => none
  | k + 1, x6, x9, x10, x52, x125000, x125001, x125002 => if x52 = true then (some (([] : List (List Int)), 33)) else ((transomref16_Names.f k x6 (wrap64 (x10 + 1))).bind fun bt133 => (if bt133.2.2 = true then ((transomref16_isSign.f x6 bt133.2.1 (⟨#[59]⟩ : ByteArray)).bind fun t138 => (transomref16_Policy.j3 k x6 x9 bt133.1 bt133.2.1 (!t138) x125000 x125001 x125002)) else (transomref16_Policy.j3 k x6 x9 bt133.1 bt133.2.1 true x125000 x125001 x125002)))
def transomref16_Policy.j3 : Nat → List (S103) → List (List Int) → List ByteArray → Int → Bool → List (S82) → List (S85) → Int → Option ((List (List Int)) × Int)
  | 0, _, _, _, _, _, _, _, _ => none
  | k + 1, x6, x9, x11, x12, x68, x125000, x125001, x125002 => if x68 = true then (some (([] : List (List Int)), 33)) else ((transomref16_Way.f k x125000 x125001 x125002 x125002 x11).bind fun bt139 => (if bt139.2 = true then (if x9.length < 5864062014805 then (transomref16_Policy.l0 k x6 (x9 ++ [bt139.1]) (wrap64 (x12 + 1)) x125000 x125001 x125002) else (none)) else (some (([] : List (List Int)), 33))))
end
def transomref16_Policy.f (k : Nat) (l0_0 : List (S82)) (l0_1 : List (S85)) (a0_2 : Int) (a1 : ByteArray) : Option ((List (List Int)) × Int) := (transomref03_Tokens.f a1 (⟨#[46, 59]⟩ : ByteArray)).bind fun bt125 => (if bt125.2.1 = 0 then (transomref16_Policy.j0 k bt125.1 (decide ((a1.size : Int) > 1024)) l0_0 l0_1 a0_2) else (transomref16_Policy.j0 k bt125.1 true l0_0 l0_1 a0_2))
theorem transomref16_Policy.mono_l : ∀ k, (∀ y0 y1 y2 y3 y4, LeO (transomref16_Policy.j0 k y0 y1 y2 y3 y4) (transomref16_Policy.j0 (k + 1) y0 y1 y2 y3 y4)) ∧ (∀ y0 y1 y2 y3 y4 y5, LeO (transomref16_Policy.l0 k y0 y1 y2 y3 y4 y5) (transomref16_Policy.l0 (k + 1) y0 y1 y2 y3 y4 y5)) ∧ (∀ y0 y1 y2 y3 y4 y5 y6, LeO (transomref16_Policy.j2 k y0 y1 y2 y3 y4 y5 y6) (transomref16_Policy.j2 (k + 1) y0 y1 y2 y3 y4 y5 y6)) ∧ (∀ y0 y1 y2 y3 y4 y5 y6 y7, LeO (transomref16_Policy.j3 k y0 y1 y2 y3 y4 y5 y6 y7) (transomref16_Policy.j3 (k + 1) y0 y1 y2 y3 y4 y5 y6 y7))
  | 0 => ⟨fun _ _ _ _ _ r h => by simp [transomref16_Policy.j0] at h, fun _ _ _ _ _ _ r h => by simp [transomref16_Policy.l0] at h, fun _ _ _ _ _ _ _ r h => by simp [transomref16_Policy.j2] at h, fun _ _ _ _ _ _ _ _ r h => by simp [transomref16_Policy.j3] at h⟩
  | k + 1 => by
    obtain ⟨ih0, ih1, ih2, ih3⟩ := transomref16_Policy.mono_l k
    refine ⟨?_, ?_, ?_, ?_⟩
    · intro y0 y1 y2 y3 y4
      unfold transomref16_Policy.j0
      repeat' first
      | (with_reducible exact ih0 _ _ _ _ _)
      | (with_reducible exact ih1 _ _ _ _ _ _)
      | (with_reducible exact ih2 _ _ _ _ _ _ _)
      | (with_reducible exact ih3 _ _ _ _ _ _ _ _)
      | (with_reducible exact transomref16_Names.mono _ _ _)
      | (with_reducible exact transomref16_Way.mono _ _ _ _ _ _)
      | (with_reducible exact LeO.refl _)
      | (with_reducible exact LeO.none _)
      | (with_reducible refine LeO.ite ?_ ?_)
      | (with_reducible refine LeO.bind ?_ (fun _ => ?_))
      | exact ih0 _ _ _ _ _
      | exact ih1 _ _ _ _ _ _
      | exact ih2 _ _ _ _ _ _ _
      | exact ih3 _ _ _ _ _ _ _ _
      | exact transomref16_Names.mono _ _ _
      | exact transomref16_Way.mono _ _ _ _ _ _
      | exact LeO.none _
      | refine LeO.ite ?_ ?_
      | refine LeO.bind ?_ (fun _ => ?_)
    · intro y0 y1 y2 y3 y4 y5
      unfold transomref16_Policy.l0
      repeat' first
      | (with_reducible exact ih0 _ _ _ _ _)
      | (with_reducible exact ih1 _ _ _ _ _ _)
      | (with_reducible exact ih2 _ _ _ _ _ _ _)
      | (with_reducible exact ih3 _ _ _ _ _ _ _ _)
      | (with_reducible exact transomref16_Names.mono _ _ _)
      | (with_reducible exact transomref16_Way.mono _ _ _ _ _ _)
      | (with_reducible exact LeO.refl _)
      | (with_reducible exact LeO.none _)
      | (with_reducible refine LeO.ite ?_ ?_)
      | (with_reducible refine LeO.bind ?_ (fun _ => ?_))
      | exact ih0 _ _ _ _ _
      | exact ih1 _ _ _ _ _ _
      | exact ih2 _ _ _ _ _ _ _
      | exact ih3 _ _ _ _ _ _ _ _
      | exact transomref16_Names.mono _ _ _
      | exact transomref16_Way.mono _ _ _ _ _ _
      | exact LeO.none _
      | refine LeO.ite ?_ ?_
      | refine LeO.bind ?_ (fun _ => ?_)
    · intro y0 y1 y2 y3 y4 y5 y6
      unfold transomref16_Policy.j2
      repeat' first
      | (with_reducible exact ih0 _ _ _ _ _)
      | (with_reducible exact ih1 _ _ _ _ _ _)
      | (with_reducible exact ih2 _ _ _ _ _ _ _)
      | (with_reducible exact ih3 _ _ _ _ _ _ _ _)
      | (with_reducible exact transomref16_Names.mono _ _ _)
      | (with_reducible exact transomref16_Way.mono _ _ _ _ _ _)
      | (with_reducible exact LeO.refl _)
      | (with_reducible exact LeO.none _)
      | (with_reducible refine LeO.ite ?_ ?_)
      | (with_reducible refine LeO.bind ?_ (fun _ => ?_))
      | exact ih0 _ _ _ _ _
      | exact ih1 _ _ _ _ _ _
      | exact ih2 _ _ _ _ _ _ _
      | exact ih3 _ _ _ _ _ _ _ _
      | exact transomref16_Names.mono _ _ _
      | exact transomref16_Way.mono _ _ _ _ _ _
      | exact LeO.none _
      | refine LeO.ite ?_ ?_
      | refine LeO.bind ?_ (fun _ => ?_)
    · intro y0 y1 y2 y3 y4 y5 y6 y7
      unfold transomref16_Policy.j3
      repeat' first
      | (with_reducible exact ih0 _ _ _ _ _)
      | (with_reducible exact ih1 _ _ _ _ _ _)
      | (with_reducible exact ih2 _ _ _ _ _ _ _)
      | (with_reducible exact ih3 _ _ _ _ _ _ _ _)
      | (with_reducible exact transomref16_Names.mono _ _ _)
      | (with_reducible exact transomref16_Way.mono _ _ _ _ _ _)
      | (with_reducible exact LeO.refl _)
      | (with_reducible exact LeO.none _)
      | (with_reducible refine LeO.ite ?_ ?_)
      | (with_reducible refine LeO.bind ?_ (fun _ => ?_))
      | exact ih0 _ _ _ _ _
      | exact ih1 _ _ _ _ _ _
      | exact ih2 _ _ _ _ _ _ _
      | exact ih3 _ _ _ _ _ _ _ _
      | exact transomref16_Names.mono _ _ _
      | exact transomref16_Way.mono _ _ _ _ _ _
      | exact LeO.none _
      | refine LeO.ite ?_ ?_
      | refine LeO.bind ?_ (fun _ => ?_)
theorem transomref16_Policy.mono : ∀ a0 a1 a2 a3 k, LeO (transomref16_Policy.f k a0 a1 a2 a3) (transomref16_Policy.f (k + 1) a0 a1 a2 a3) := by
  intro a0 a1 a2 a3 k
  obtain ⟨ih0, ih1, ih2, ih3⟩ := transomref16_Policy.mono_l k
  unfold transomref16_Policy.f
  repeat' first
      | (with_reducible exact ih0 _ _ _ _ _)
      | (with_reducible exact ih1 _ _ _ _ _ _)
      | (with_reducible exact ih2 _ _ _ _ _ _ _)
      | (with_reducible exact ih3 _ _ _ _ _ _ _ _)
      | (with_reducible exact transomref16_Names.mono _ _ _)
      | (with_reducible exact transomref16_Way.mono _ _ _ _ _ _)
      | (with_reducible exact LeO.refl _)
      | (with_reducible exact LeO.none _)
      | (with_reducible refine LeO.ite ?_ ?_)
      | (with_reducible refine LeO.bind ?_ (fun _ => ?_))
      | exact ih0 _ _ _ _ _
      | exact ih1 _ _ _ _ _ _
      | exact ih2 _ _ _ _ _ _ _
      | exact ih3 _ _ _ _ _ _ _ _
      | exact transomref16_Names.mono _ _ _
      | exact transomref16_Way.mono _ _ _ _ _ _
      | exact LeO.none _
      | refine LeO.ite ?_ ?_
      | refine LeO.bind ?_ (fun _ => ?_)
set_option maxHeartbeats 8000000 in
set_option maxRecDepth 100000 in
theorem transomref16_Policy.calls (k : Nat) (A0_0 : Option Addr) (c0_0 : Nat) (l0_0 : List (S82)) (A0_1 : Option Addr) (c0_1 : Nat) (l0_1 : List (S85)) (a0_2 : Int) (a1 : ByteArray) (r1 : List (List Int)) (r2 : Int) (w : World) (hr0_0 : Kd.C k82 w A0_0 l0_0.length l0_0) (hc0_0 : l0_0.length ≤ c0_0) (hr0_1 : Kd.C k85 w A0_1 l0_1.length l0_1) (hc0_1 : l0_1.length ≤ c0_1) (hT : Go.Proofs.YtejpjclbeogajaaDoor.Tabs w) (h : transomref16_Policy.f k l0_0 l0_1 a0_2 a1 = some (r1, r2)) :
    Calls Tryd.prog 11 #[.agg #[.slice A0_0 l0_0.length c0_0, .slice A0_1 l0_1.length c0_1, .int .i64 a0_2], .string a1] w fun e w' => ∃ v0_ : Value, e = .returned (.tuple #[v0_, .int .i64 r2]) ∧ Kd.S (Kd.slice 3 (Kd.int .i64)) 27 w' w.heap.size (fun _ => True) v0_ r1 ∧ Below w.heap.size w w' := by
  have HTABS := Aside0.mk hT
  clear hT
  have hu32 := Tryd.underlying32
  have HR0_0 := Aside0.mk hr0_0
  have HC0_0 := Aside0.mk hc0_0
  clear hr0_0 hc0_0
  have HR0_1 := Aside0.mk hr0_1
  have HC0_1 := Aside0.mk hc0_1
  clear hr0_1 hc0_1
  have HB := Aside0.mk (Below.refl w.heap.size w)
  have H : ((transomref03_Tokens.f a1 (⟨#[46, 59]⟩ : ByteArray)).bind fun bt125 => (if bt125.2.1 = 0 then (transomref16_Policy.j0 k bt125.1 (decide ((a1.size : Int) > 1024)) l0_0 l0_1 a0_2) else (transomref16_Policy.j0 k bt125.1 true l0_0 l0_1 a0_2))) = some (r1, r2) := h
  clear h
  replace H := Option.bind_eq_some_iff.mp H
  obtain ⟨⟨t125, t126, t127⟩, A30, H⟩ := H
  replace H : (if t126 = 0 then (transomref16_Policy.j0 k t125 (decide ((a1.size : Int) > 1024)) l0_0 l0_1 a0_2) else (transomref16_Policy.j0 k t125 true l0_0 l0_1 a0_2)) = some (r1, r2) := H
  have A3 := Aside0.mk A30
  clear A30
  have HC4 := Aside0.mk H
  clear H
  go_enter Tryd.func11, Tryd.ntmps11
  go_upto_region 2 with (first | ((with_reducible refine gate_dst (N := 2) rfl ?_); (try (refine gate_guard (by rfl) ?_; dsimp only)); refine box_event ?hg (N := 2) ?hd (cs := #[.slice A0_0 l0_0.length c0_0, .slice A0_1 l0_1.length c0_1, .int .i64 a0_2]) (t := 32) ?hr ?_; (case hd => rfl); (case hg => rfl); (case hr => first | (go_simp; done) | (go_simp; rfl)); intro gb124 hg w5 hbox hb; have n0_ := Aside0.mk (below_step (by repeat (first | (with_reducible first | exact HB.out | apply below_alloc | apply pw_below_drewN | apply below_drew1) | exact HB.out)) hb); have n1_ := Aside0.mk (hbox); have n2_ := Aside0.mk ((by rw [hg]; exact (below_size (by repeat (first | (with_reducible first | exact HB.out | apply below_alloc | apply pw_below_drewN | apply below_drew1) | exact HB.out))) : w.heap.size ≤ gb124)); have n3_ := Aside0.mk ((by rw [hg]; exact (below_size (by repeat (first | (with_reducible first | exact HB.out | apply below_alloc | apply pw_below_drewN | apply below_drew1) | exact HB.out))) : w.heap.size ≤ gb124)); clear HB; have HB := n0_; have BK124 := n1_; have GW124 := n2_; have GE124 := n3_; clear n0_ n1_ n2_ n3_; clear hb hbox hg) | ((with_reducible refine gateF (f := 15) rfl ?_); refine goesL_ (some 17) rfl rfl Tryd.func15 (by kernel_rfl) rfl #[.string a1, .string (⟨#[46, 59]⟩ : ByteArray)] rfl (by (try simp only [List.map_toArray, List.map_cons, List.map_nil]); first | done | rfl | (simp only [List.length_drop, List.length_take]; rfl)) ?_; (with_reducible refine (transomref03_Tokens.calls a1 (⟨#[46, 59]⟩ : ByteArray) t125 t126 t127 _ ?sideTabs A3.out).mono ?_); (case sideTabs => exact HTABS.out.below (by repeat (first | (with_reducible first | exact HB.out | apply below_alloc | apply pw_below_drewN | apply below_drew1) | exact HB.out))); rintro e w6 ⟨v128, rfl, ho0, hb⟩; refine ⟨_, rfl, ?_⟩; have n0_ := Aside0.mk (Kd.R_lower ho0 (below_size (by repeat (first | (with_reducible first | exact HB.out | apply below_alloc | apply pw_below_drewN | apply below_drew1 | refine below_set ?_ GE124.out) | exact HB.out)))); have n1_ := Aside0.mk (blk_below (g := gb124) (o := .cells #[.slice A0_0 l0_0.length c0_0, .slice A0_1 l0_1.length c0_1, .int .i64 a0_2] 32 (0, 0)) (by (with_reducible repeat (first | refine blk_drewN ?_ _ | refine blk_drew ?_ | refine blk_alloc ?_ _)); exact BK124.out) hb); have n2_ := Aside0.mk (below_step (by repeat (first | (with_reducible first | exact HB.out | apply below_alloc | apply pw_below_drewN | apply below_drew1 | refine below_set ?_ GE124.out) | exact HB.out)) hb); clear BK124; clear HB; have HO129 := n0_; have BK124 := n1_; have HB := n2_; clear n0_ n1_ n2_; (try clear hb); (try clear hb2); (try clear hk); (try clear hi); (try clear ho0)))
  (try simp only [Act.put, List.setIfInBounds_toArray, List.set_cons_zero, List.set_cons_succ])
  go_cut [27] (fun v27 wc => ∃ (kq : Nat) (x27_3 : Bool), v27 = .bool x27_3 ∧ Aside0 (transomref16_Policy.j0 kq t125 x27_3 l0_0 l0_1 a0_2 = some (r1, r2)) ∧ Aside0 (kq ≤ k) ∧ Aside0 (Kd.R k103 103 wc w.heap.size (fun _ => True) v128 t125) ∧ Aside0 (wc.heap[gb124]? = some (.cells #[(.slice A0_0 l0_0.length c0_0), (.slice A0_1 l0_1.length c0_1), .int .i64 a0_2] 32 (0, 0))) ∧ Aside0 (Below w.heap.size w wc))
  case first =>
    have H := HC4.out
    clear HC4
    by_cases c7 : t126 = 0
    · rw [if_pos c7] at H
      have c7b0 : (t126 == 0) = true := beq_iff_eq.mpr c7
      have c7b1 : (t126 != 0) = false := bne_eq_false_iff_eq.mpr c7
      clear c7
      (first | rw [c7b0] | (simp only [i64_w, i32_w]; rw [c7b0]) | skip)
      have H' := Aside0.mk H
      clear H
      go_wp2
      go_meet
      case rel => exact ⟨_, (decide ((a1.size : Int) > 1024)), (by first | rfl | (simp; done) | (simp [*]; done)), H', ⟨by first | omega | exact Nat.le_refl _⟩, ⟨by (with_reducible repeat (first | apply Kd.R_alloc | apply Kd.R_drewN | apply Kd.R_drew)); exact HO129.out⟩, ⟨by (with_reducible repeat (first | refine blk_drewN ?_ _ | refine blk_drew ?_ | refine blk_alloc ?_ _)); exact BK124.out⟩, ⟨by repeat (first | (with_reducible first | exact HB.out | apply below_alloc | apply pw_below_drewN | apply below_drew1 | refine below_set ?_ GE124.out) | exact HB.out)⟩⟩
    · rw [if_neg c7] at H
      have c7b0 : (t126 == 0) = false := beq_eq_false_iff_ne.mpr c7
      have c7b1 : (t126 != 0) = true := bne_iff_ne.mpr c7
      (first | rw [c7b0] | (simp only [i64_w, i32_w]; rw [c7b0]) | skip)
      have H' := Aside0.mk H
      clear H
      go_wp2
      go_meet
      case rel => exact ⟨_, (true), (by first | rfl | (simp; done) | (simp [*]; done)), H', ⟨by first | omega | exact Nat.le_refl _⟩, ⟨by (with_reducible repeat (first | apply Kd.R_alloc | apply Kd.R_drewN | apply Kd.R_drew)); exact HO129.out⟩, ⟨by (with_reducible repeat (first | refine blk_drewN ?_ _ | refine blk_drew ?_ | refine blk_alloc ?_ _)); exact BK124.out⟩, ⟨by repeat (first | (with_reducible first | exact HB.out | apply below_alloc | apply pw_below_drewN | apply below_drew1 | refine below_set ?_ GE124.out) | exact HB.out)⟩⟩
  case rest =>
    clear HC4
    try clear c1
    try clear p2
    try clear c7
    try clear c7b0
    try clear c7b1
    obtain ⟨kq, x27_3, rfl, HA, HJ3, HO_6, BK124, HB⟩ := hcut
    cases kq with
    | zero => exact absurd HA.out (by simp [transomref16_Policy.j0])
    | succ kj3 =>
      have H := HA.out
      clear HA
      simp only [transomref16_Policy.j0] at H
      by_cases c8 : x27_3 = true
      · subst c8
        have H1 : (some (([] : List (List Int)), 33)) = some (r1, r2) := by rw [if_pos rfl] at H; exact H
        clear H
        have H := H1
        clear H1
        simp only [Option.some.injEq, Prod.mk.injEq] at H
        obtain ⟨rfl, rfl⟩ := H
        go_wp2
        go_ret2
        exact ⟨_, by first | rfl | (simp [errW_none, errW_some] <;> rfl) | (simp [*, errW_none, errW_some] <;> rfl), by first | exact Kd.S_nil _ _ _ _ _ | exact Kd.Q_nil _ _ _ _ _ | exact Kd.R_nil _ _ _ _ _, by repeat (first | (with_reducible first | exact HB.out | apply below_alloc | apply pw_below_drewN | apply below_drew1 | refine below_set ?_ GE124.out) | exact HB.out)⟩
      · replace c8 := Bool.eq_false_iff.mpr c8
        subst c8
        have H1 : (transomref16_Policy.l0 kj3 t125 ([] : List (List Int)) 0 l0_0 l0_1 a0_2) = some (r1, r2) := by rw [if_neg (show ¬ (false = true) by decide)] at H; exact H
        clear H
        have H := H1
        clear H1
        have H' := Aside0.mk H
        clear H
        go_wp2
        go_loopg [9, 10] kj3 (fun kq v9 v10 w' => ∃ (x9_2 : List (List Int)) (x10_2 : Int), v10 = .int .i64 x10_2 ∧ Aside0 (transomref16_Policy.l0 kq t125 x9_2 x10_2 l0_0 l0_1 a0_2 = some (r1, r2)) ∧ Aside0 (kq ≤ kj3) ∧ Aside0 (Kd.R k103 103 w' w.heap.size (fun _ => True) v128 t125) ∧ Aside0 (Kd.S (Kd.slice 3 (Kd.int .i64)) 27 w' w.heap.size (fun _ => True) v9 x9_2) ∧ Aside0 (w'.heap[gb124]? = some (.cells #[(.slice A0_0 l0_0.length c0_0), (.slice A0_1 l0_1.length c0_1), .int .i64 a0_2] 32 (0, 0))) ∧ Aside0 (Below w.heap.size w w'))
        case atStart => exact ⟨(([] : List (List Int))), (0), (by first | rfl | (simp; done) | (simp [*]; done)), H', ⟨Nat.le_refl _⟩, ⟨by (with_reducible repeat (first | apply Kd.R_alloc | apply Kd.R_drewN | apply Kd.R_drew)); exact HO_6.out⟩, ⟨by first | exact Kd.S_nil _ _ _ _ _ | exact Kd.Q_nil _ _ _ _ _ | exact Kd.R_nil _ _ _ _ _⟩, ⟨by (with_reducible repeat (first | refine blk_drewN ?_ _ | refine blk_drew ?_ | refine blk_alloc ?_ _)); exact BK124.out⟩, ⟨by repeat (first | (with_reducible first | exact HB.out | apply below_alloc | apply pw_below_drewN | apply below_drew1 | refine below_set ?_ GE124.out) | exact HB.out)⟩⟩
        case round =>
          clear H'
          try clear c1
          try clear p2
          try clear c7
          try clear c7b0
          try clear c7b1
          try clear c8
          try clear p2
          obtain ⟨x9_2, x10_2, rfl, HA, HK2, HO_6, HO_9, BK124, HB⟩ := hrel
          cases gk with
          | zero => exact absurd HA.out (by simp [transomref16_Policy.l0])
          | succ k2 =>
            have H := HA.out
            clear HA
            simp only [transomref16_Policy.l0] at H
            by_cases c9 : 0 ≤ x10_2
            · rw [if_pos c9] at H
              have c9b0 : decide (0 ≤ x10_2) = true := decide_eq_true c9
              clear c9
              by_cases c10 : x10_2 < (t125.length : Int)
              · rw [if_pos c10] at H
                have c10b0 : decide (x10_2 < (t125.length : Int)) = true := decide_eq_true c10
                clear c10
                by_cases c11 : ((rd_T103 t125 x10_2).f0) = 0
                · rw [if_pos c11] at H
                  have c11b0 : (((rd_T103 t125 x10_2).f0) == 0) = true := beq_iff_eq.mpr c11
                  have c11b1 : (((rd_T103 t125 x10_2).f0) != 0) = false := bne_eq_false_iff_eq.mpr c11
                  clear c11
                  simp only [Option.some.injEq, Prod.mk.injEq] at H
                  obtain ⟨rfl, rfl⟩ := H
                  obtain ⟨Ao12, co12, eo12⟩ := Kd.R_slice HO_6.out
                  subst eo12
                  have p130 : 0 ≤ (x10_2 : Int) := of_decide_eq_true (by first | (with_reducible assumption) | assumption)
                  have q130 : x10_2 < (t125.length : Int) := of_decide_eq_true (by first | (with_reducible assumption) | assumption)
                  obtain ⟨ad130, e130, hx130_0, hx130_1, hx130_2⟩ := at_T103 (Kd.R_reads' HO_6.out).2.2 x10_2 p130 q130
                  cases e130
                  replace p130 := eq_true p130
                  replace q130 := eq_true q130
                  go_wp2
                  go_ret2
                  exact ⟨_, by first | rfl | (simp [errW_none, errW_some] <;> rfl) | (simp [*, errW_none, errW_some] <;> rfl), by (with_reducible repeat (first | apply Kd.S_alloc | apply Kd.S_drewN | apply Kd.S_drew)); exact HO_9.out, by repeat (first | (with_reducible first | exact HB.out | apply below_alloc | apply pw_below_drewN | apply below_drew1 | refine below_set ?_ GE124.out) | exact HB.out)⟩
                · rw [if_neg c11] at H
                  have c11b0 : (((rd_T103 t125 x10_2).f0) == 0) = false := beq_eq_false_iff_ne.mpr c11
                  have c11b1 : (((rd_T103 t125 x10_2).f0) != 0) = true := bne_iff_ne.mpr c11
                  have HC13 := Aside0.mk H
                  clear H
                  obtain ⟨Ao14, co14, eo14⟩ := Kd.R_slice HO_6.out
                  subst eo14
                  have p130 : 0 ≤ (x10_2 : Int) := of_decide_eq_true (by first | (with_reducible assumption) | assumption)
                  have q130 : x10_2 < (t125.length : Int) := of_decide_eq_true (by first | (with_reducible assumption) | assumption)
                  obtain ⟨ad130, e130, hx130_0, hx130_1, hx130_2⟩ := at_T103 (Kd.R_reads' HO_6.out).2.2 x10_2 p130 q130
                  cases e130
                  replace p130 := eq_true p130
                  replace q130 := eq_true q130
                  go_upto_region 7 with (fail)
                  go_cut [52] (fun v52 wc => ∃ (kq : Nat) (x52_12 : Bool), v52 = .bool x52_12 ∧ Aside0 (transomref16_Policy.j2 kq t125 x9_2 x10_2 x52_12 l0_0 l0_1 a0_2 = some (r1, r2)) ∧ Aside0 (kq ≤ k2) ∧ Aside0 (Kd.R k103 103 wc w.heap.size (fun _ => True) (.slice (some ad130) t125.length co14) t125) ∧ Aside0 (Kd.S (Kd.slice 3 (Kd.int .i64)) 27 wc w.heap.size (fun _ => True) u9 x9_2) ∧ Aside0 (wc.heap[gb124]? = some (.cells #[(.slice A0_0 l0_0.length c0_0), (.slice A0_1 l0_1.length c0_1), .int .i64 a0_2] 32 (0, 0))) ∧ Aside0 (Below w.heap.size w wc))
                  case first =>
                    have H := HC13.out
                    clear HC13
                    by_cases c15 : ((rd_T103 t125 x10_2).f0) = 1
                    · rw [if_pos c15] at H
                      have c15b0 : (((rd_T103 t125 x10_2).f0) == 1) = true := beq_iff_eq.mpr c15
                      have c15b1 : (((rd_T103 t125 x10_2).f0) != 1) = false := bne_eq_false_iff_eq.mpr c15
                      clear c15
                      (first | rw [c15b0] | (simp only [i64_w, i32_w]; rw [c15b0]) | skip)
                      by_cases c16 : ((rd_T103 t125 x10_2).f1).toList = ([104, 105, 100, 101] : List UInt8)
                      · rw [if_pos c16] at H
                        have c16b0 : (((rd_T103 t125 x10_2).f1).toList == ([104, 105, 100, 101] : List UInt8)) = true := beq_iff_eq.mpr c16
                        have c16b1 : (((rd_T103 t125 x10_2).f1).toList != ([104, 105, 100, 101] : List UInt8)) = false := bne_eq_false_iff_eq.mpr c16
                        clear c16
                        have H' := Aside0.mk H
                        clear H
                        have p131 : 0 ≤ (x10_2 : Int) := of_decide_eq_true (by first | (with_reducible assumption) | assumption)
                        have q131 : x10_2 < (t125.length : Int) := of_decide_eq_true (by first | (with_reducible assumption) | assumption)
                        obtain ⟨ad131, e131, hx131_0, hx131_1, hx131_2⟩ := at_T103 (Kd.R_reads' HO_6.out).2.2 x10_2 p131 q131
                        obtain rfl : ad130 = ad131 := (by injection e131)
                        replace p131 := eq_true p131
                        replace q131 := eq_true q131
                        have p132 : 0 ≤ (x10_2 : Int) := of_decide_eq_true (by first | (with_reducible assumption) | assumption)
                        have q132 : x10_2 < (t125.length : Int) := of_decide_eq_true (by first | (with_reducible assumption) | assumption)
                        obtain ⟨ad132, e132, hx132_0, hx132_1, hx132_2⟩ := at_T103 (Kd.R_reads' HO_6.out).2.2 x10_2 p132 q132
                        obtain rfl : ad130 = ad132 := (by injection e132)
                        replace p132 := eq_true p132
                        replace q132 := eq_true q132
                        obtain ⟨Ao17, co17, eo17⟩ := Kd.S_slice HO_9.out
                        subst eo17
                        go_wp2
                        go_meet
                        case rel => exact ⟨_, (decide ((x9_2.length : Int) ≥ 16)), (by first | rfl | (simp; done) | (simp [*]; done)), H', ⟨by have := HJ3.out; have := HK2.out; first | omega | exact Nat.le_refl _⟩, ⟨by (with_reducible repeat (first | apply Kd.R_alloc | apply Kd.R_drewN | apply Kd.R_drew)); exact HO_6.out⟩, ⟨by (with_reducible repeat (first | apply Kd.S_alloc | apply Kd.S_drewN | apply Kd.S_drew)); exact HO_9.out⟩, ⟨by (with_reducible repeat (first | refine blk_drewN ?_ _ | refine blk_drew ?_ | refine blk_alloc ?_ _)); exact BK124.out⟩, ⟨by repeat (first | (with_reducible first | exact HB.out | apply below_alloc | apply pw_below_drewN | apply below_drew1 | refine below_set ?_ GE124.out) | exact HB.out)⟩⟩
                      · rw [if_neg c16] at H
                        have c16b0 : (((rd_T103 t125 x10_2).f1).toList == ([104, 105, 100, 101] : List UInt8)) = false := beq_eq_false_iff_ne.mpr c16
                        have c16b1 : (((rd_T103 t125 x10_2).f1).toList != ([104, 105, 100, 101] : List UInt8)) = true := bne_iff_ne.mpr c16
                        have H' := Aside0.mk H
                        clear H
                        have p131 : 0 ≤ (x10_2 : Int) := of_decide_eq_true (by first | (with_reducible assumption) | assumption)
                        have q131 : x10_2 < (t125.length : Int) := of_decide_eq_true (by first | (with_reducible assumption) | assumption)
                        obtain ⟨ad131, e131, hx131_0, hx131_1, hx131_2⟩ := at_T103 (Kd.R_reads' HO_6.out).2.2 x10_2 p131 q131
                        obtain rfl : ad130 = ad131 := (by injection e131)
                        replace p131 := eq_true p131
                        replace q131 := eq_true q131
                        have p132 : 0 ≤ (x10_2 : Int) := of_decide_eq_true (by first | (with_reducible assumption) | assumption)
                        have q132 : x10_2 < (t125.length : Int) := of_decide_eq_true (by first | (with_reducible assumption) | assumption)
                        obtain ⟨ad132, e132, hx132_0, hx132_1, hx132_2⟩ := at_T103 (Kd.R_reads' HO_6.out).2.2 x10_2 p132 q132
                        obtain rfl : ad130 = ad132 := (by injection e132)
                        replace p132 := eq_true p132
                        replace q132 := eq_true q132
                        go_wp2
                        go_meet
                        case rel => exact ⟨_, (true), (by first | rfl | (simp; done) | (simp [*]; done)), H', ⟨by have := HJ3.out; have := HK2.out; first | omega | exact Nat.le_refl _⟩, ⟨by (with_reducible repeat (first | apply Kd.R_alloc | apply Kd.R_drewN | apply Kd.R_drew)); exact HO_6.out⟩, ⟨by (with_reducible repeat (first | apply Kd.S_alloc | apply Kd.S_drewN | apply Kd.S_drew)); exact HO_9.out⟩, ⟨by (with_reducible repeat (first | refine blk_drewN ?_ _ | refine blk_drew ?_ | refine blk_alloc ?_ _)); exact BK124.out⟩, ⟨by repeat (first | (with_reducible first | exact HB.out | apply below_alloc | apply pw_below_drewN | apply below_drew1 | refine below_set ?_ GE124.out) | exact HB.out)⟩⟩
                    · rw [if_neg c15] at H
                      have c15b0 : (((rd_T103 t125 x10_2).f0) == 1) = false := beq_eq_false_iff_ne.mpr c15
                      have c15b1 : (((rd_T103 t125 x10_2).f0) != 1) = true := bne_iff_ne.mpr c15
                      (first | rw [c15b0] | (simp only [i64_w, i32_w]; rw [c15b0]) | skip)
                      have H' := Aside0.mk H
                      clear H
                      have p131 : 0 ≤ (x10_2 : Int) := of_decide_eq_true (by first | (with_reducible assumption) | assumption)
                      have q131 : x10_2 < (t125.length : Int) := of_decide_eq_true (by first | (with_reducible assumption) | assumption)
                      obtain ⟨ad131, e131, hx131_0, hx131_1, hx131_2⟩ := at_T103 (Kd.R_reads' HO_6.out).2.2 x10_2 p131 q131
                      obtain rfl : ad130 = ad131 := (by injection e131)
                      replace p131 := eq_true p131
                      replace q131 := eq_true q131
                      go_wp2
                      go_meet
                      case rel => exact ⟨_, (true), (by first | rfl | (simp; done) | (simp [*]; done)), H', ⟨by have := HJ3.out; have := HK2.out; first | omega | exact Nat.le_refl _⟩, ⟨by (with_reducible repeat (first | apply Kd.R_alloc | apply Kd.R_drewN | apply Kd.R_drew)); exact HO_6.out⟩, ⟨by (with_reducible repeat (first | apply Kd.S_alloc | apply Kd.S_drewN | apply Kd.S_drew)); exact HO_9.out⟩, ⟨by (with_reducible repeat (first | refine blk_drewN ?_ _ | refine blk_drew ?_ | refine blk_alloc ?_ _)); exact BK124.out⟩, ⟨by repeat (first | (with_reducible first | exact HB.out | apply below_alloc | apply pw_below_drewN | apply below_drew1 | refine below_set ?_ GE124.out) | exact HB.out)⟩⟩
                  case rest =>
                    clear HC13
                    try clear c1
                    try clear p1
                    try clear q1
                    try clear hx1
                    try clear p2
                    try clear c7
                    try clear c7b0
                    try clear c7b1
                    try clear c8
                    try clear c9
                    try clear c9b0
                    try clear c10
                    try clear c10b0
                    try clear c11
                    try clear c11b0
                    try clear c11b1
                    try clear p13
                    try clear q13
                    try clear hx13
                    try clear c15
                    try clear c15b0
                    try clear c15b1
                    try clear c16
                    try clear c16b0
                    try clear c16b1
                    try clear hx130_0
                    try clear hx130_1
                    try clear hx130_2
                    try clear hx131_0
                    try clear hx131_1
                    try clear hx131_2
                    try clear hx132_0
                    try clear hx132_1
                    try clear hx132_2
                    try clear p130
                    try clear p131
                    try clear p132
                    try clear p2
                    try clear q130
                    try clear q131
                    try clear q132
                    obtain ⟨kq, x52_12, rfl, HA, HJ12, HO_6, HO_9, BK124, HB⟩ := hcut
                    cases kq with
                    | zero => exact absurd HA.out (by simp [transomref16_Policy.j2])
                    | succ kj12 =>
                      have H := HA.out
                      clear HA
                      simp only [transomref16_Policy.j2] at H
                      by_cases c18 : x52_12 = true
                      · subst c18
                        have H1 : (some (([] : List (List Int)), 33)) = some (r1, r2) := by rw [if_pos rfl] at H; exact H
                        clear H
                        have H := H1
                        clear H1
                        simp only [Option.some.injEq, Prod.mk.injEq] at H
                        obtain ⟨rfl, rfl⟩ := H
                        go_wp2
                        go_ret2
                        exact ⟨_, by first | rfl | (simp [errW_none, errW_some] <;> rfl) | (simp [*, errW_none, errW_some] <;> rfl), by first | exact Kd.S_nil _ _ _ _ _ | exact Kd.Q_nil _ _ _ _ _ | exact Kd.R_nil _ _ _ _ _, by repeat (first | (with_reducible first | exact HB.out | apply below_alloc | apply pw_below_drewN | apply below_drew1 | refine below_set ?_ GE124.out) | exact HB.out)⟩
                      · replace c18 := Bool.eq_false_iff.mpr c18
                        subst c18
                        have H1 : ((transomref16_Names.f kj12 t125 (wrap64 (x10_2 + 1))).bind fun bt133 => (if bt133.2.2 = true then ((transomref16_isSign.f t125 bt133.2.1 (⟨#[59]⟩ : ByteArray)).bind fun t138 => (transomref16_Policy.j3 kj12 t125 x9_2 bt133.1 bt133.2.1 (!t138) l0_0 l0_1 a0_2)) else (transomref16_Policy.j3 kj12 t125 x9_2 bt133.1 bt133.2.1 true l0_0 l0_1 a0_2))) = some (r1, r2) := by rw [if_neg (show ¬ (false = true) by decide)] at H; exact H
                        clear H
                        have H := H1
                        clear H1
                        replace H := Option.bind_eq_some_iff.mp H
                        obtain ⟨⟨t133, t134, t135⟩, A190, H⟩ := H
                        replace H : (if t135 = true then ((transomref16_isSign.f t125 t134 (⟨#[59]⟩ : ByteArray)).bind fun t138 => (transomref16_Policy.j3 kj12 t125 x9_2 t133 t134 (!t138) l0_0 l0_1 a0_2)) else (transomref16_Policy.j3 kj12 t125 x9_2 t133 t134 true l0_0 l0_1 a0_2)) = some (r1, r2) := H
                        have A19 := Aside0.mk A190
                        clear A190
                        have HC20 := Aside0.mk H
                        clear H
                        go_upto_region 10 with (first | ((with_reducible refine gateF (f := 36) rfl ?_); refine goesL_ (some 57) rfl rfl Tryd.func36 (by kernel_rfl) rfl #[.slice (some ad130) t125.length co14, .int .i64 (wrap64 (x10_2 + 1))] rfl (by (try simp only [List.map_toArray, List.map_cons, List.map_nil]); first | done | rfl | (simp only [List.length_drop, List.length_take]; rfl)) ?_; (with_reducible refine (transomref16_Names.calls kj12 _ _ t125 (wrap64 (x10_2 + 1)) t133 t134 t135 _ ?side1 ?side2 A19.out).mono ?_); (case side1 => repeat (first | exact (Kd.R_reads' HO_6.out).2.2 | (with_reducible refine Kd.C_alloc ?_ _) | (with_reducible refine Kd.C_drewN ?_ _) | (with_reducible refine Kd.C_drew ?_))); (case side2 => exact (Kd.R_reads' HO_6.out).2.1); rintro e w21 ⟨v136, rfl, ho0, hb⟩; refine ⟨_, rfl, ?_⟩; have n0_ := Aside0.mk (Kd.R_below (by (with_reducible repeat (first | apply Kd.R_alloc | apply Kd.R_drewN | apply Kd.R_drew)); exact HO_6.out) hb); have n1_ := Aside0.mk (Kd.S_below (by (with_reducible repeat (first | apply Kd.S_alloc | apply Kd.S_drewN | apply Kd.S_drew)); exact HO_9.out) hb); have n2_ := Aside0.mk (Kd.R_lower ho0 (below_size (by repeat (first | (with_reducible first | exact HB.out | apply below_alloc | apply pw_below_drewN | apply below_drew1 | refine below_set ?_ GE124.out) | exact HB.out)))); have n3_ := Aside0.mk (blk_below (g := gb124) (o := .cells #[.slice A0_0 l0_0.length c0_0, .slice A0_1 l0_1.length c0_1, .int .i64 a0_2] 32 (0, 0)) (by (with_reducible repeat (first | refine blk_drewN ?_ _ | refine blk_drew ?_ | refine blk_alloc ?_ _)); exact BK124.out) hb); have n4_ := Aside0.mk (below_step (by repeat (first | (with_reducible first | exact HB.out | apply below_alloc | apply pw_below_drewN | apply below_drew1 | refine below_set ?_ GE124.out) | exact HB.out)) hb); clear HO_6; clear HO_9; clear BK124; clear HB; have HO_6 := n0_; have HO_9 := n1_; have HO137 := n2_; have BK124 := n3_; have HB := n4_; clear n0_ n1_ n2_ n3_ n4_; (try clear hb); (try clear hb2); (try clear hk); (try clear hi); (try clear ho0)))
                        (try simp only [Act.put, List.setIfInBounds_toArray, List.set_cons_zero, List.set_cons_succ])
                        go_cut [68] (fun v68 wc => ∃ (kq : Nat) (x68_19 : Bool), v68 = .bool x68_19 ∧ Aside0 (transomref16_Policy.j3 kq t125 x9_2 t133 t134 x68_19 l0_0 l0_1 a0_2 = some (r1, r2)) ∧ Aside0 (kq ≤ kj12) ∧ Aside0 (Kd.R k103 103 wc w.heap.size (fun _ => True) (.slice (some ad130) t125.length co14) t125) ∧ Aside0 (Kd.S (Kd.slice 3 (Kd.int .i64)) 27 wc w.heap.size (fun _ => True) u9 x9_2) ∧ Aside0 (Kd.R Kd.string 9 wc w.heap.size (fun _ => True) v136 t133) ∧ Aside0 (wc.heap[gb124]? = some (.cells #[(.slice A0_0 l0_0.length c0_0), (.slice A0_1 l0_1.length c0_1), .int .i64 a0_2] 32 (0, 0))) ∧ Aside0 (Below w.heap.size w wc))
                        case first =>
                          have H := HC20.out
                          clear HC20
                          by_cases c22 : t135 = true
                          · subst c22
                            have H1 : ((transomref16_isSign.f t125 t134 (⟨#[59]⟩ : ByteArray)).bind fun t138 => (transomref16_Policy.j3 kj12 t125 x9_2 t133 t134 (!t138) l0_0 l0_1 a0_2)) = some (r1, r2) := by rw [if_pos rfl] at H; exact H
                            clear H
                            have H := H1
                            clear H1
                            replace H := Option.bind_eq_some_iff.mp H
                            obtain ⟨t138, A230, H⟩ := H
                            replace H : (transomref16_Policy.j3 kj12 t125 x9_2 t133 t134 (!t138) l0_0 l0_1 a0_2) = some (r1, r2) := H
                            have A23 := Aside0.mk A230
                            clear A230
                            have H' := Aside0.mk H
                            clear H
                            go_wp2_with (first | (go_at_call 37; (with_reducible refine (transomref16_isSign.calls _ _ t125 t134 (⟨#[59]⟩ : ByteArray) t138 _ ?side1 ?side2 A23.out).mono ?_); (case side1 => repeat (first | exact (Kd.R_reads' HO_6.out).2.2 | (with_reducible refine Kd.C_alloc ?_ _) | (with_reducible refine Kd.C_drewN ?_ _) | (with_reducible refine Kd.C_drew ?_))); (case side2 => exact (Kd.R_reads' HO_6.out).2.1); rintro e w' ⟨rfl, ⟨nd, rfl⟩⟩))
                            go_meet
                            case rel => exact ⟨_, (!t138), (by first | rfl | (simp; done) | (simp [*]; done)), H', ⟨by have := HJ3.out; have := HK2.out; have := HJ12.out; first | omega | exact Nat.le_refl _⟩, ⟨by (with_reducible repeat (first | apply Kd.R_alloc | apply Kd.R_drewN | apply Kd.R_drew)); exact HO_6.out⟩, ⟨by (with_reducible repeat (first | apply Kd.S_alloc | apply Kd.S_drewN | apply Kd.S_drew)); exact HO_9.out⟩, ⟨by (with_reducible repeat (first | apply Kd.R_alloc | apply Kd.R_drewN | apply Kd.R_drew)); exact HO137.out⟩, ⟨by (with_reducible repeat (first | refine blk_drewN ?_ _ | refine blk_drew ?_ | refine blk_alloc ?_ _)); exact BK124.out⟩, ⟨by repeat (first | (with_reducible first | exact HB.out | apply below_alloc | apply pw_below_drewN | apply below_drew1 | refine below_set ?_ GE124.out) | exact HB.out)⟩⟩
                          · replace c22 := Bool.eq_false_iff.mpr c22
                            subst c22
                            have H1 : (transomref16_Policy.j3 kj12 t125 x9_2 t133 t134 true l0_0 l0_1 a0_2) = some (r1, r2) := by rw [if_neg (show ¬ (false = true) by decide)] at H; exact H
                            clear H
                            have H := H1
                            clear H1
                            have H' := Aside0.mk H
                            clear H
                            go_wp2
                            go_meet
                            case rel => exact ⟨_, (true), (by first | rfl | (simp; done) | (simp [*]; done)), H', ⟨by have := HJ3.out; have := HK2.out; have := HJ12.out; first | omega | exact Nat.le_refl _⟩, ⟨by (with_reducible repeat (first | apply Kd.R_alloc | apply Kd.R_drewN | apply Kd.R_drew)); exact HO_6.out⟩, ⟨by (with_reducible repeat (first | apply Kd.S_alloc | apply Kd.S_drewN | apply Kd.S_drew)); exact HO_9.out⟩, ⟨by (with_reducible repeat (first | apply Kd.R_alloc | apply Kd.R_drewN | apply Kd.R_drew)); exact HO137.out⟩, ⟨by (with_reducible repeat (first | refine blk_drewN ?_ _ | refine blk_drew ?_ | refine blk_alloc ?_ _)); exact BK124.out⟩, ⟨by repeat (first | (with_reducible first | exact HB.out | apply below_alloc | apply pw_below_drewN | apply below_drew1 | refine below_set ?_ GE124.out) | exact HB.out)⟩⟩
                        case rest =>
                          clear HC20
                          try clear c1
                          try clear p1
                          try clear q1
                          try clear hx1
                          try clear c2
                          try clear p2
                          try clear c3
                          try clear p6
                          try clear c7
                          try clear c7b0
                          try clear c7b1
                          try clear c8
                          try clear c9
                          try clear c9b0
                          try clear c10
                          try clear c10b0
                          try clear c11
                          try clear c11b0
                          try clear c11b1
                          try clear p13
                          try clear q13
                          try clear hx13
                          try clear c15
                          try clear c15b0
                          try clear c15b1
                          try clear c16
                          try clear c16b0
                          try clear c16b1
                          try clear c18
                          try clear c22
                          try clear hx130_0
                          try clear hx130_1
                          try clear hx130_2
                          try clear hx131_0
                          try clear hx131_1
                          try clear hx131_2
                          try clear hx132_0
                          try clear hx132_1
                          try clear hx132_2
                          try clear p1
                          try clear p13
                          try clear p130
                          try clear p131
                          try clear p132
                          try clear p2
                          try clear q1
                          try clear q13
                          try clear q130
                          try clear q131
                          try clear q132
                          obtain ⟨kq, x68_19, rfl, HA, HJ19, HO_6, HO_9, HO_11, BK124, HB⟩ := hcut
                          cases kq with
                          | zero => exact absurd HA.out (by simp [transomref16_Policy.j3])
                          | succ kj19 =>
                            have H := HA.out
                            clear HA
                            simp only [transomref16_Policy.j3] at H
                            by_cases c24 : x68_19 = true
                            · subst c24
                              have H1 : (some (([] : List (List Int)), 33)) = some (r1, r2) := by rw [if_pos rfl] at H; exact H
                              clear H
                              have H := H1
                              clear H1
                              simp only [Option.some.injEq, Prod.mk.injEq] at H
                              obtain ⟨rfl, rfl⟩ := H
                              go_wp2
                              go_ret2
                              exact ⟨_, by first | rfl | (simp [errW_none, errW_some] <;> rfl) | (simp [*, errW_none, errW_some] <;> rfl), by first | exact Kd.S_nil _ _ _ _ _ | exact Kd.Q_nil _ _ _ _ _ | exact Kd.R_nil _ _ _ _ _, by repeat (first | (with_reducible first | exact HB.out | apply below_alloc | apply pw_below_drewN | apply below_drew1 | refine below_set ?_ GE124.out) | exact HB.out)⟩
                            · replace c24 := Bool.eq_false_iff.mpr c24
                              subst c24
                              have H1 : ((transomref16_Way.f kj19 l0_0 l0_1 a0_2 a0_2 t133).bind fun bt139 => (if bt139.2 = true then (if x9_2.length < 5864062014805 then (transomref16_Policy.l0 kj19 t125 (x9_2 ++ [bt139.1]) (wrap64 (t134 + 1)) l0_0 l0_1 a0_2) else (none)) else (some (([] : List (List Int)), 33)))) = some (r1, r2) := by rw [if_neg (show ¬ (false = true) by decide)] at H; exact H
                              clear H
                              have H := H1
                              clear H1
                              replace H := Option.bind_eq_some_iff.mp H
                              obtain ⟨⟨t139, t142⟩, A250, H⟩ := H
                              replace H : (if t142 = true then (if x9_2.length < 5864062014805 then (transomref16_Policy.l0 kj19 t125 (x9_2 ++ [t139]) (wrap64 (t134 + 1)) l0_0 l0_1 a0_2) else (none)) else (some (([] : List (List Int)), 33))) = some (r1, r2) := H
                              have A25 := Aside0.mk A250
                              clear A250
                              by_cases c26 : t142 = true
                              · subst c26
                                have H1 : (if x9_2.length < 5864062014805 then (transomref16_Policy.l0 kj19 t125 (x9_2 ++ [t139]) (wrap64 (t134 + 1)) l0_0 l0_1 a0_2) else (none)) = some (r1, r2) := by rw [if_pos rfl] at H; exact H
                                clear H
                                have H := H1
                                clear H1
                                by_cases c27 : x9_2.length < 5864062014805
                                · rw [if_pos c27] at H
                                  have LMc27 := Aside0.mk c27
                                  clear c27
                                  obtain ⟨y143, hy143⟩ : ∃ y_ : List (List Int), y_ = (x9_2 ++ [t139]) := ⟨_, rfl⟩
                                  replace H : (transomref16_Policy.l0 kj19 t125 y143 (wrap64 (t134 + 1)) l0_0 l0_1 a0_2) = some (r1, r2) := by first | (rw [hy143]; with_reducible exact H) | (have H2_ := (Option.bind_some _ _).symm.trans H; rw [hy143]; with_reducible exact H2_) | (have H2_ := (Option.bind_some _ _).symm.trans H; with_reducible exact H2_) | with_reducible exact H | (rw [hy143]; exact H) | exact H
                                  have Ny143 := Aside0.mk hy143
                                  clear hy143
                                  have H' := Aside0.mk H
                                  clear H
                                  have hcz28_0 : wc.cell? ⟨gb124, 0, none⟩ = some (.slice A0_0 l0_0.length c0_0) := (blk_cell BK124.out 0).trans rfl
                                  have hcz28_1 : wc.cell? ⟨gb124, 1, none⟩ = some (.slice A0_1 l0_1.length c0_1) := (blk_cell BK124.out 1).trans rfl
                                  have hcz28_2 : wc.cell? ⟨gb124, 2, none⟩ = some (.int .i64 a0_2) := (blk_cell BK124.out 2).trans rfl
                                  have hfz28_0 := blk_frozen BK124.out 0
                                  have hfz28_1 := blk_frozen BK124.out 1
                                  have hfz28_2 := blk_frozen BK124.out 2
                                  obtain ⟨Ao29, co29, eo29⟩ := Kd.R_slice HO_11.out
                                  subst eo29
                                  go_wp2_with (first | ((with_reducible refine gateF (f := 38) rfl ?_); refine goesL_ (some 74) rfl rfl Tryd.func38 (by kernel_rfl) rfl #[.agg #[.slice A0_0 l0_0.length c0_0, .slice A0_1 l0_1.length c0_1, .int .i64 a0_2], .int .i64 a0_2, .slice Ao29 t133.length co29] rfl (by (try simp only [List.map_toArray, List.map_cons, List.map_nil]); first | done | rfl | (simp only [List.length_drop, List.length_take]; rfl)) ?_; (with_reducible refine (transomref16_Way.calls kj19 _ _ l0_0 _ _ l0_1 a0_2 a0_2 _ _ t133 t139 true _ ?side1 ?side2 ?side3 ?side4 ?side5 ?side6 A25.out).mono ?_); (case side1 => repeat (first | exact (Kd.C_below HR0_0.out HB.out) | (with_reducible refine Kd.C_alloc ?_ _) | (with_reducible refine Kd.C_drewN ?_ _) | (with_reducible refine Kd.C_drew ?_))); (case side2 => exact HC0_0.out); (case side3 => repeat (first | exact (Kd.C_below HR0_1.out HB.out) | (with_reducible refine Kd.C_alloc ?_ _) | (with_reducible refine Kd.C_drewN ?_ _) | (with_reducible refine Kd.C_drew ?_))); (case side4 => exact HC0_1.out); (case side5 => repeat (first | exact (Kd.R_reads' HO_11.out).2.2 | (with_reducible refine Kd.C_alloc ?_ _) | (with_reducible refine Kd.C_drewN ?_ _) | (with_reducible refine Kd.C_drew ?_))); (case side6 => exact (Kd.R_reads' HO_11.out).2.1); rintro e w30 ⟨v140, rfl, ho0, hb⟩; refine ⟨_, rfl, ?_⟩; have n0_ := Aside0.mk (Kd.R_below (by (with_reducible repeat (first | apply Kd.R_alloc | apply Kd.R_drewN | apply Kd.R_drew)); exact HO_6.out) hb); have n1_ := Aside0.mk (Kd.S_elder' (by (with_reducible repeat (first | apply Kd.S_alloc | apply Kd.S_drewN | apply Kd.S_drew)); exact HO_9.out) (Kd.R_base ho0) hb); have n2_ := Aside0.mk (Kd.R_below (by (with_reducible repeat (first | apply Kd.R_alloc | apply Kd.R_drewN | apply Kd.R_drew)); exact HO_11.out) hb); have n3_ := Aside0.mk (Kd.R_lower ho0 (below_size (by repeat (first | (with_reducible first | exact HB.out | apply below_alloc | apply pw_below_drewN | apply below_drew1 | refine below_set ?_ GE124.out) | exact HB.out)))); have n4_ := Aside0.mk (blk_below (g := gb124) (o := .cells #[.slice A0_0 l0_0.length c0_0, .slice A0_1 l0_1.length c0_1, .int .i64 a0_2] 32 (0, 0)) (by (with_reducible repeat (first | refine blk_drewN ?_ _ | refine blk_drew ?_ | refine blk_alloc ?_ _)); exact BK124.out) hb); have n5_ := Aside0.mk (below_step (by repeat (first | (with_reducible first | exact HB.out | apply below_alloc | apply pw_below_drewN | apply below_drew1 | refine below_set ?_ GE124.out) | exact HB.out)) hb); clear HO_6; clear HO_9; clear HO_11; clear BK124; clear HB; have HO_6 := n0_; have HO_9 := n1_; have HO_11 := n2_; have HO141 := n3_; have BK124 := n4_; have HB := n5_; clear n0_ n1_ n2_ n3_ n4_ n5_; (try clear hb); (try clear hb2); (try clear hk); (try clear hi); (try clear ho0); obtain ⟨Ao32, co32, eo32⟩ := Kd.R_slice HO141.out; subst eo32) | ((with_reducible refine gateB (b := .append) (xs := #[.tmp 79, .tmp 81]) rfl ?_); (try (refine gate_guard (by rfl) ?_; dsimp only)); at_builtin; refine Kd.S_append (Kd.slice 3 (Kd.int .i64)) (w0 := w) w.heap.size rfl (.tmp 79) (.tmp 81) 41 27 (.slice none 0 0) 24 rfl Tryd.underlying41 info27 rfl (by decide) (by omega) u9 x9_2 t139 [.slice Ao32 t139.length co32] (fun _ => True) (fun k_ => some k_ = (.slice Ao32 t139.length co32 : Value).ownBlock) rfl rfl ?aP (fun k_ hk_ => ((Kd.R_mono (ok' := fun k_ => ((fun _ => True)) k_ ∧ some k_ ≠ (u9 : Value).ownBlock) (Kd.R_apart' (HO141.out) (Kd.S_typed HO_9.out) (by decide)) (fun k_ hk => ⟨trivial, hk.2⟩))).1 k_ hk_.symm) ?aF ?aO ?aB ?aS ?aL ?_; (case aP => exact Kd.M_row (Kd.R_mono (Kd.R_tight rfl (Kd.R_mono (ok' := fun k_ => ((fun _ => True)) k_ ∧ some k_ ≠ (u9 : Value).ownBlock) (Kd.R_apart' (HO141.out) (Kd.S_typed HO_9.out) (by decide)) (fun k_ hk => ⟨trivial, hk.2⟩))) (fun _ h_ => h_))); (case aB => exact (by repeat (first | (with_reducible first | exact HB.out | apply below_alloc | apply pw_below_drewN | apply below_drew1 | refine below_set ?_ GE124.out) | exact HB.out))); (case aF => exact (fun _ _ => trivial)); (case aO => exact (by (with_reducible repeat (first | apply Kd.S_alloc | apply Kd.S_drewN | apply Kd.S_drew)); exact Kd.S_mono HO_9.out (fun k_ hk => ⟨trivial, fun e_ => hk.2 e_⟩))); (case aS => exact (below_size (by repeat (first | (with_reducible first | exact HB.out | apply below_alloc | apply pw_below_drewN | apply below_drew1 | refine below_set ?_ GE124.out) | exact HB.out)))); (case aL => have := LMc27.out; omega); intro v144 w31 ho hb hg hat; rw [← Ny143.out] at ho; have n0_ := Aside0.mk (Kd.R_over' (by (with_reducible repeat (first | apply Kd.R_alloc | apply Kd.R_drewN | apply Kd.R_drew)); exact HO_6.out) (Kd.S_typed (by (with_reducible repeat (first | apply Kd.S_alloc | apply Kd.S_drewN | apply Kd.S_drew)); exact HO_9.out)) (by decide) hg); have n1_ := Aside0.mk (Kd.R_over' (by (with_reducible repeat (first | apply Kd.R_alloc | apply Kd.R_drewN | apply Kd.R_drew)); exact HO_11.out) (Kd.S_typed (by (with_reducible repeat (first | apply Kd.S_alloc | apply Kd.S_drewN | apply Kd.S_drew)); exact HO_9.out)) (by decide) hg); have n2_ := Aside0.mk (blk_grown (g := gb124) (o := .cells #[.slice A0_0 l0_0.length c0_0, .slice A0_1 l0_1.length c0_1, .int .i64 a0_2] 32 (0, 0)) (by (with_reducible repeat (first | refine blk_drewN ?_ _ | refine blk_drew ?_ | refine blk_alloc ?_ _)); exact BK124.out) hg (Kd.S_ne HO_9.out BK124.out (by decide))); have n3_ := Aside0.mk (hb); have n4_ := Aside0.mk (ho); clear HO_6; clear HO_11; clear BK124; clear HB; clear HO_9; clear HO141; have HO_6 := n0_; have HO_11 := n1_; have BK124 := n2_; have HB := n3_; have HO145 := n4_; clear n0_ n1_ n2_ n3_ n4_; clear ho hb hg hat))
                                  go_roundg kj19
                                  case measure => have := HJ3.out; have := HK2.out; have := HJ12.out; have := HJ19.out; omega
                                  case rel => exact ⟨(y143), (wrap64 (t134 + 1)), (by first | rfl | (simp; done) | (simp [*]; done)), H', ⟨by have := HJ3.out; have := HK2.out; have := HJ12.out; have := HJ19.out; omega⟩, ⟨by (with_reducible repeat (first | apply Kd.R_alloc | apply Kd.R_drewN | apply Kd.R_drew)); exact HO_6.out⟩, ⟨by (with_reducible repeat (first | apply Kd.S_alloc | apply Kd.S_drewN | apply Kd.S_drew)); exact HO145.out⟩, ⟨by (with_reducible repeat (first | refine blk_drewN ?_ _ | refine blk_drew ?_ | refine blk_alloc ?_ _)); exact BK124.out⟩, ⟨by repeat (first | (with_reducible first | exact HB.out | apply below_alloc | apply pw_below_drewN | apply below_drew1 | refine below_set ?_ GE124.out) | exact HB.out)⟩⟩
                                · rw [if_neg c27] at H
                                  exact absurd H (by simp)
                              · replace c26 := Bool.eq_false_iff.mpr c26
                                subst c26
                                have H1 : (some (([] : List (List Int)), 33)) = some (r1, r2) := by rw [if_neg (show ¬ (false = true) by decide)] at H; exact H
                                clear H
                                have H := H1
                                clear H1
                                simp only [Option.some.injEq, Prod.mk.injEq] at H
                                obtain ⟨rfl, rfl⟩ := H
                                have hcz33_0 : wc.cell? ⟨gb124, 0, none⟩ = some (.slice A0_0 l0_0.length c0_0) := (blk_cell BK124.out 0).trans rfl
                                have hcz33_1 : wc.cell? ⟨gb124, 1, none⟩ = some (.slice A0_1 l0_1.length c0_1) := (blk_cell BK124.out 1).trans rfl
                                have hcz33_2 : wc.cell? ⟨gb124, 2, none⟩ = some (.int .i64 a0_2) := (blk_cell BK124.out 2).trans rfl
                                have hfz33_0 := blk_frozen BK124.out 0
                                have hfz33_1 := blk_frozen BK124.out 1
                                have hfz33_2 := blk_frozen BK124.out 2
                                obtain ⟨Ao34, co34, eo34⟩ := Kd.R_slice HO_11.out
                                subst eo34
                                go_wp2_with (first | ((with_reducible refine gateF (f := 38) rfl ?_); refine goesL_ (some 74) rfl rfl Tryd.func38 (by kernel_rfl) rfl #[.agg #[.slice A0_0 l0_0.length c0_0, .slice A0_1 l0_1.length c0_1, .int .i64 a0_2], .int .i64 a0_2, .slice Ao34 t133.length co34] rfl (by (try simp only [List.map_toArray, List.map_cons, List.map_nil]); first | done | rfl | (simp only [List.length_drop, List.length_take]; rfl)) ?_; (with_reducible refine (transomref16_Way.calls kj19 _ _ l0_0 _ _ l0_1 a0_2 a0_2 _ _ t133 t139 false _ ?side1 ?side2 ?side3 ?side4 ?side5 ?side6 A25.out).mono ?_); (case side1 => repeat (first | exact (Kd.C_below HR0_0.out HB.out) | (with_reducible refine Kd.C_alloc ?_ _) | (with_reducible refine Kd.C_drewN ?_ _) | (with_reducible refine Kd.C_drew ?_))); (case side2 => exact HC0_0.out); (case side3 => repeat (first | exact (Kd.C_below HR0_1.out HB.out) | (with_reducible refine Kd.C_alloc ?_ _) | (with_reducible refine Kd.C_drewN ?_ _) | (with_reducible refine Kd.C_drew ?_))); (case side4 => exact HC0_1.out); (case side5 => repeat (first | exact (Kd.R_reads' HO_11.out).2.2 | (with_reducible refine Kd.C_alloc ?_ _) | (with_reducible refine Kd.C_drewN ?_ _) | (with_reducible refine Kd.C_drew ?_))); (case side6 => exact (Kd.R_reads' HO_11.out).2.1); rintro e w35 ⟨v140, rfl, ho0, hb⟩; refine ⟨_, rfl, ?_⟩; have n0_ := Aside0.mk (Kd.R_below (by (with_reducible repeat (first | apply Kd.R_alloc | apply Kd.R_drewN | apply Kd.R_drew)); exact HO_6.out) hb); have n1_ := Aside0.mk (Kd.S_elder' (by (with_reducible repeat (first | apply Kd.S_alloc | apply Kd.S_drewN | apply Kd.S_drew)); exact HO_9.out) (Kd.R_base ho0) hb); have n2_ := Aside0.mk (Kd.R_below (by (with_reducible repeat (first | apply Kd.R_alloc | apply Kd.R_drewN | apply Kd.R_drew)); exact HO_11.out) hb); have n3_ := Aside0.mk (Kd.R_lower ho0 (below_size (by repeat (first | (with_reducible first | exact HB.out | apply below_alloc | apply pw_below_drewN | apply below_drew1 | refine below_set ?_ GE124.out) | exact HB.out)))); have n4_ := Aside0.mk (blk_below (g := gb124) (o := .cells #[.slice A0_0 l0_0.length c0_0, .slice A0_1 l0_1.length c0_1, .int .i64 a0_2] 32 (0, 0)) (by (with_reducible repeat (first | refine blk_drewN ?_ _ | refine blk_drew ?_ | refine blk_alloc ?_ _)); exact BK124.out) hb); have n5_ := Aside0.mk (below_step (by repeat (first | (with_reducible first | exact HB.out | apply below_alloc | apply pw_below_drewN | apply below_drew1 | refine below_set ?_ GE124.out) | exact HB.out)) hb); clear HO_6; clear HO_9; clear HO_11; clear BK124; clear HB; have HO_6 := n0_; have HO_9 := n1_; have HO_11 := n2_; have HO141 := n3_; have BK124 := n4_; have HB := n5_; clear n0_ n1_ n2_ n3_ n4_ n5_; (try clear hb); (try clear hb2); (try clear hk); (try clear hi); (try clear ho0)))
                                go_ret2
                                exact ⟨_, by first | rfl | (simp [errW_none, errW_some] <;> rfl) | (simp [*, errW_none, errW_some] <;> rfl), by first | exact Kd.S_nil _ _ _ _ _ | exact Kd.Q_nil _ _ _ _ _ | exact Kd.R_nil _ _ _ _ _, by repeat (first | (with_reducible first | exact HB.out | apply below_alloc | apply pw_below_drewN | apply below_drew1 | refine below_set ?_ GE124.out) | exact HB.out)⟩
              · rw [if_neg c10] at H
                exact absurd H (by simp)
            · rw [if_neg c9] at H
              exact absurd H (by simp)

end Go.Proofs.YtejpjclbeogajaaDoorP.Pf
