/-
  Tabled: a struct as a table in which some fields are: what it comes to; ref Inline.
-/
import Derived.Test.YtlfpakopahmdiaaSameInts
import Derived.Test.YtlfpakopahmdiaaRegion
namespace Go.Proofs.Ytlfpakopahmdiaa
open Go.RowKit
set_option linter.unusedVariables false
set_option linter.unusedSimpArgs false

structure TabSt where
  size : Int
  align : Int
  at_ : List Int

def bget (th : List Bool) (i : Nat) : Bool := th[i]!
def thereB (th : List Bool) (i : Nat) : Bool := decide (i < th.length) && bget th i
def roundUp (x z : Int) : Int := (x + z - 1) / z * z
def tSize : Nat → Int | 0 => 8 | 1 => 4 | 2 => 2 | _ => 1
theorem tSize_or (z : Nat) : tSize z = 8 ∨ tSize z = 4 ∨ tSize z = 2 ∨ tSize z = 1 := by
  unfold tSize; split <;> simp

theorem roundUp_bd (x z : Int) (hz : z = 8 ∨ z = 4 ∨ z = 2 ∨ z = 1) : x ≤ roundUp x z ∧ roundUp x z ≤ x + 7 ∧ roundUp x z % z = 0 := by
  unfold roundUp
  rcases hz with rfl | rfl | rfl | rfl <;> omega

/-- the next multiple is the first one -/
theorem roundUp_first (x y z : Int) (hz : z = 8 ∨ z = 4 ∨ z = 2 ∨ z = 1) (h0 : x ≤ y) (h1 : y ≤ roundUp x z) (h2 : y % z = 0) : y = roundUp x z := by
  unfold roundUp at *
  rcases hz with rfl | rfl | rfl | rfl <;> omega

def tStep (z : Int) (f : FField) (b : Bool) (i : Nat) (s : TabSt) : TabSt :=
  if b = true ∧ inlineOf f.kind f.lists = z then ⟨roundUp s.size z + z, if s.align < z then z else s.align, s.at_.set i (roundUp s.size z)⟩ else s
def tIn (fs : List FField) (th : List Bool) (z : Int) (s : TabSt) : Nat → TabSt
  | 0 => s
  | k + 1 => tStep z (fget fs k) (thereB th k) k (tIn fs th z s k)
def tOut (fs : List FField) (th : List Bool) : Nat → TabSt
  | 0 => ⟨4, 4, List.replicate fs.length 0⟩
  | z + 1 => tIn fs th (tSize z) (tOut fs th z) fs.length

theorem tIn_bd (fs : List FField) (th : List Bool) (z : Int) (hz : z = 8 ∨ z = 4 ∨ z = 2 ∨ z = 1) (s : TabSt) (k : Nat) :
    s.size ≤ (tIn fs th z s k).size ∧ (tIn fs th z s k).size ≤ s.size + 15 * k ∧ (tIn fs th z s k).at_.length = s.at_.length := by
  induction k with
  | zero => simp [tIn]
  | succ k ih =>
    obtain ⟨h1, h2, h3⟩ := ih
    simp only [tIn, tStep]
    split
    · have := roundUp_bd (tIn fs th z s k).size z hz
      refine ⟨?_, ?_, by simp [h3]⟩
      · simp only; omega
      · simp only; push_cast; omega
    · exact ⟨h1, by push_cast; omega, h3⟩

theorem tOut_bd (fs : List FField) (th : List Bool) (hn : fs.length ≤ 16) (z : Nat) : 4 ≤ (tOut fs th z).size ∧ (tOut fs th z).size ≤ 4 + 240 * z ∧ (tOut fs th z).at_.length = fs.length := by
  induction z with
  | zero => simp [tOut]
  | succ z ih =>
    have := tIn_bd fs th (tSize z) (tSize_or z) (tOut fs th z) fs.length
    simp only [tOut]
    refine ⟨by omega, by push_cast; omega, by omega⟩

set_option maxHeartbeats 400000 in
theorem refInline_calls (nm : ByteArray) (kind ref lists df : Int) (h0 : 0 ≤ kind) (h1 : kind < 256) (w : World) :
    Calls Try.prog 29 #[.agg #[.string nm, .int .u8 kind, .int .i64 ref, .int .i64 lists, .int .u64 df]] w fun e w' => e = .returned (.int .i64 (inlineOf kind lists)) ∧ Below w.heap.size w w' := by
  have hw : IntKind.i64.wrap kind = kind := IntWalk.i64_in _ (by omega)
  go_enter Try.func29, Try.ntmps29
  go_wp2_with (first | (go_at_call 46; refine (refIsNum_calls _ _ _ h0 h1 _).mono ?_; rintro e wB ⟨rfl, hB⟩; have hzB := hB.size; (try simp only [World.size_alloc, World.size_setCell, World.size_drew] at hzB); obtain ⟨hcB, hfB⟩ := bcell hB) | (go_at_call 43; refine (refSize_calls _ _).mono ?_; rintro e w' ⟨rfl, rfl⟩))
  all_goals go_ret
  all_goals exact ⟨by simp_all [inlineOf], by (repeat' (first | (with_reducible exact Below.refl _ _) | (with_reducible assumption) | (with_reducible refine Below.alloc ?_ ?_ _) | (with_reducible refine Below.drew ?_) | (with_reducible refine Below.setCell ?_ ?_ _) | (with_reducible refine Below.trans ?_ (Below.mono (by assumption) ?_)) | go_size))⟩

end Go.Proofs.Ytlfpakopahmdiaa
