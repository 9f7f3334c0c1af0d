/-
  LayoutApart: four rows of bools, of which more and more is taken.
-/
import Derived.Test.YtlfpakopahmdiaaTake
namespace Go.Proofs.Ytlfpakopahmdiaa
open Go.RowKit
set_option linter.unusedVariables false
set_option linter.unusedSimpArgs false

/-- four rows of bools, each in a block of its own -/
structure FourAt (W9 : World) (B1 B2 B3 B4 n1 n2 n3 n4 : Nat) (f1 f2 f3 f4 : Nat → Bool) (w : World) : Prop where
  below : Below W9.heap.size W9 w
  l1 : W9.heap.size ≤ B1
  l2 : W9.heap.size ≤ B2
  l3 : W9.heap.size ≤ B3
  l4 : W9.heap.size ≤ B4
  r1 : w.heap[B1]? = some (rowB n1 f1)
  r2 : w.heap[B2]? = some (rowB n2 f2)
  r3 : w.heap[B3]? = some (rowB n3 f3)
  r4 : w.heap[B4]? = some (rowB n4 f4)
  d12 : B1 ≠ B2
  d13 : B1 ≠ B3
  d14 : B1 ≠ B4
  d23 : B2 ≠ B3
  d24 : B2 ≠ B4
  d34 : B3 ≠ B4
theorem FourAt.run {W9 : World} {B1 B2 B3 B4 n1 n2 n3 n4 : Nat} {f1 f2 f3 f4 : Nat → Bool} {w w' : World} (h : FourAt W9 B1 B2 B3 B4 n1 n2 n3 n4 f1 f2 f3 f4 w) (hb : Below w.heap.size w w') : FourAt W9 B1 B2 B3 B4 n1 n2 n3 n4 f1 f2 f3 f4 w' :=
  { h with below := h.below.trans (hb.mono h.below.size), r1 := blk_below h.r1 hb (blk_lt h.r1), r2 := blk_below h.r2 hb (blk_lt h.r2), r3 := blk_below h.r3 hb (blk_lt h.r3), r4 := blk_below h.r4 hb (blk_lt h.r4) }
/-- what is left alone when a row is taken from -/
def Kept (B : Nat) (w w' : World) : Prop := w.heap.size ≤ w'.heap.size ∧ ∀ q, q < w.heap.size → q ≠ B → w'.heap[q]? = w.heap[q]?
theorem grown_kept {B : Nat} {w w' : World} (h : w.grownBy w' (some B)) : Kept B w w' := ⟨h.size, fun q hq hn => h.block q hq (fun e => hn (Option.some.inj e))⟩
theorem FourAt.below_grown {W9 : World} {B1 B2 B3 B4 n1 n2 n3 n4 : Nat} {f1 f2 f3 f4 : Nat → Bool} {w w' : World} (h : FourAt W9 B1 B2 B3 B4 n1 n2 n3 n4 f1 f2 f3 f4 w) {B : Nat} (hB : W9.heap.size ≤ B) (hg : w.grownBy w' (some B)) : Below W9.heap.size W9 w' :=
  Below.grown h.below hg h.below.size (fun k e => by cases e; exact hB)
def tk (f : Nat → Bool) (p n : Nat) (x : Nat) : Bool := f x || (decide (p ≤ x) && decide (x < p + n))
theorem take1 {W9 : World} {B1 B2 B3 B4 n1 n2 n3 n4 : Nat} {f1 f2 f3 f4 : Nat → Bool} {w : World} (h : FourAt W9 B1 B2 B3 B4 n1 n2 n3 n4 f1 f2 f3 f4 w) (hN : n1 ≤ 100000) (p n cap : Nat) (hfit : p + n ≤ n1) (hfree : ∀ x, p ≤ x → x < p + n → f1 x = false) :
    Calls Try.prog 33 #[.slice (some ⟨B1, 0, none⟩) n1 cap, .int .i64 (p : Int), .int .i64 (n : Int)] w fun e w' => e = .returned (.bool true) ∧ FourAt W9 B1 B2 B3 B4 n1 n2 n3 n4 (tk f1 p n) f2 f3 f4 w' ∧ Kept B1 w w' := by
  refine (take_calls B1 n1 cap f1 p n w hN h.r1 hfit hfree).mono fun e w' ⟨he, hg, hr⟩ => ⟨he, ?_, grown_kept hg⟩
  have hk := (grown_kept hg).2
  exact { h with below := h.below_grown h.l1 hg, r1 := hr, r2 := (hk _ (blk_lt h.r2) (Ne.symm h.d12)).trans h.r2, r3 := (hk _ (blk_lt h.r3) (Ne.symm h.d13)).trans h.r3, r4 := (hk _ (blk_lt h.r4) (Ne.symm h.d14)).trans h.r4 }
theorem take2 {W9 : World} {B1 B2 B3 B4 n1 n2 n3 n4 : Nat} {f1 f2 f3 f4 : Nat → Bool} {w : World} (h : FourAt W9 B1 B2 B3 B4 n1 n2 n3 n4 f1 f2 f3 f4 w) (hN : n2 ≤ 100000) (p n cap : Nat) (hfit : p + n ≤ n2) (hfree : ∀ x, p ≤ x → x < p + n → f2 x = false) :
    Calls Try.prog 33 #[.slice (some ⟨B2, 0, none⟩) n2 cap, .int .i64 (p : Int), .int .i64 (n : Int)] w fun e w' => e = .returned (.bool true) ∧ FourAt W9 B1 B2 B3 B4 n1 n2 n3 n4 f1 (tk f2 p n) f3 f4 w' ∧ Kept B2 w w' := by
  refine (take_calls B2 n2 cap f2 p n w hN h.r2 hfit hfree).mono fun e w' ⟨he, hg, hr⟩ => ⟨he, ?_, grown_kept hg⟩
  have hk := (grown_kept hg).2
  exact { h with below := h.below_grown h.l2 hg, r1 := (hk _ (blk_lt h.r1) h.d12).trans h.r1, r2 := hr, r3 := (hk _ (blk_lt h.r3) (Ne.symm h.d23)).trans h.r3, r4 := (hk _ (blk_lt h.r4) (Ne.symm h.d24)).trans h.r4 }
theorem take3 {W9 : World} {B1 B2 B3 B4 n1 n2 n3 n4 : Nat} {f1 f2 f3 f4 : Nat → Bool} {w : World} (h : FourAt W9 B1 B2 B3 B4 n1 n2 n3 n4 f1 f2 f3 f4 w) (hN : n3 ≤ 100000) (p n cap : Nat) (hfit : p + n ≤ n3) (hfree : ∀ x, p ≤ x → x < p + n → f3 x = false) :
    Calls Try.prog 33 #[.slice (some ⟨B3, 0, none⟩) n3 cap, .int .i64 (p : Int), .int .i64 (n : Int)] w fun e w' => e = .returned (.bool true) ∧ FourAt W9 B1 B2 B3 B4 n1 n2 n3 n4 f1 f2 (tk f3 p n) f4 w' ∧ Kept B3 w w' := by
  refine (take_calls B3 n3 cap f3 p n w hN h.r3 hfit hfree).mono fun e w' ⟨he, hg, hr⟩ => ⟨he, ?_, grown_kept hg⟩
  have hk := (grown_kept hg).2
  exact { h with below := h.below_grown h.l3 hg, r1 := (hk _ (blk_lt h.r1) h.d13).trans h.r1, r2 := (hk _ (blk_lt h.r2) h.d23).trans h.r2, r3 := hr, r4 := (hk _ (blk_lt h.r4) (Ne.symm h.d34)).trans h.r4 }
theorem take4 {W9 : World} {B1 B2 B3 B4 n1 n2 n3 n4 : Nat} {f1 f2 f3 f4 : Nat → Bool} {w : World} (h : FourAt W9 B1 B2 B3 B4 n1 n2 n3 n4 f1 f2 f3 f4 w) (hN : n4 ≤ 100000) (p n cap : Nat) (hfit : p + n ≤ n4) (hfree : ∀ x, p ≤ x → x < p + n → f4 x = false) :
    Calls Try.prog 33 #[.slice (some ⟨B4, 0, none⟩) n4 cap, .int .i64 (p : Int), .int .i64 (n : Int)] w fun e w' => e = .returned (.bool true) ∧ FourAt W9 B1 B2 B3 B4 n1 n2 n3 n4 f1 f2 f3 (tk f4 p n) w' ∧ Kept B4 w w' := by
  refine (take_calls B4 n4 cap f4 p n w hN h.r4 hfit hfree).mono fun e w' ⟨he, hg, hr⟩ => ⟨he, ?_, grown_kept hg⟩
  have hk := (grown_kept hg).2
  exact { h with below := h.below_grown h.l4 hg, r1 := (hk _ (blk_lt h.r1) h.d14).trans h.r1, r2 := (hk _ (blk_lt h.r2) h.d24).trans h.r2, r3 := (hk _ (blk_lt h.r3) h.d34).trans h.r3, r4 := hr }

def sN (fs : List FField) (i : Nat) : Prop := i < fs.length ∧ numF fs i
def sP (fs : List FField) (i : Nat) : Prop := i < fs.length ∧ ¬ numF fs i
def sT (fs : List FField) (th : List Bool) (i : Nat) : Prop := i < fs.length ∧ thereB th i = true
instance numF_dec (fs : List FField) : DecidablePred (numF fs) := fun i => by unfold numF; infer_instance
instance sN_dec (fs : List FField) : DecidablePred (sN fs) := fun i => by unfold sN; infer_instance
instance sP_dec (fs : List FField) : DecidablePred (sP fs) := fun i => by unfold sP; infer_instance
instance sT_dec (fs : List FField) (th : List Bool) : DecidablePred (sT fs th) := fun i => by unfold sT; infer_instance

theorem tk_next {len : Nat → Int} {S : Nat → Prop} [DecidablePred S] {at_ : List Int} {k p n : Nat} (h : S k) (hp : ag at_ k = (p : Int)) (hn : len k = (n : Int)) : tk (took len S at_ k) p n = took len S at_ (k + 1) := by
  funext x
  rw [took_next len S at_ k x h, hp, hn]
  unfold tk
  congr 1
  congr 1
  · rw [decide_eq_decide]; omega
  · rw [decide_eq_decide]; omega
theorem tk_skip {len : Nat → Int} {S : Nat → Prop} [DecidablePred S] {at_ : List Int} {k : Nat} (h : ¬ S k) : took len S at_ k = took len S at_ (k + 1) := by
  funext x; exact (took_skip len S at_ k x h).symm
theorem tk_free {M : Prop} {len : Nat → Int} {S : Nat → Prop} [DecidablePred S] {at_ : List Int} {lo pos : Int} (h : Lay M len S at_ lo pos) {k p n : Nat} (hk : S k) (hp : ag at_ k = (p : Int)) (hn : len k = (n : Int)) : ∀ x, p ≤ x → x < p + n → took len S at_ k x = false :=
  fun x h1 h2 => took_free h k x hk (by omega) (by omega)
theorem lay_nat {M : Prop} {len : Nat → Int} {S : Nat → Prop} {at_ : List Int} {lo : Int} {N : Nat} (h : Lay M len S at_ lo (N : Int)) (h0 : 0 ≤ lo) {k : Nat} (hk : S k) (hl : 0 ≤ len k) : ∃ p n : Nat, ag at_ k = (p : Int) ∧ len k = (n : Int) ∧ p + n ≤ N ∧ lo ≤ (p : Int) := by
  have := h.inb k hk
  exact ⟨(ag at_ k).toNat, (len k).toNat, by omega, by omega, by omega, by omega⟩
theorem num_iff (kd ls : Int) : isNumB kd ls = (decide (ls = 0) && decide (0 < kindBits kd)) := by
  unfold isNumB kindBits
  congr 1
  have hb := kindSize_bd kd
  by_cases h1 : kd = 1
  · subst h1; decide
  · by_cases h10 : kd = 10
    · subst h10; decide
    · rw [if_neg h1, if_neg h10, decide_eq_decide]; omega

end Go.Proofs.Ytlfpakopahmdiaa
