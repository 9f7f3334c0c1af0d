/-
  A text's signs one behind the other, and their units.
-/
import Derived.Test.YtejpjclbeogajaaDoorData
import Derived.Lib.OthersKept
import Derived.Laws.Cover4
import Derived.Laws.IdiomStrings
namespace Go.Proofs.YtejpjclbeogajaaDoor
open Go.RowKit
set_option linter.unusedVariables false
set_option linter.unusedSimpArgs false

theorem decode_top (s : ByteArray) (pos : Nat) : (Utf8.decode s pos).1 ≤ 1114111 := by
  have hb : ∀ k, (s.get! (pos + k)).toNat < 256 := fun k => (s.get! (pos + k)).toNat_lt
  have h0 := hb 0; have h1 := hb 1; have h2 := hb 2; have h3 := hb 3
  simp only [Utf8.decode]
  repeat' split
  all_goals simp_all [Utf8.runeError, Utf8.valid]
  all_goals omega

theorem decode_width (s : ByteArray) (pos : Nat) (h : pos < s.size) : 1 ≤ (Utf8.decode s pos).2 := by
  by_cases ha : (s[pos]'h).toNat < 128
  · rw [decode_ascii s pos h ha]
    exact Nat.le_refl _
  · exact (decode_high s pos h (by omega)).2

/-- the signs from a place on, so many at most -/
def runesL (s : ByteArray) : Nat → Nat → List Nat
  | 0, _ => []
  | fuel + 1, pos => if pos < s.size then (Utf8.decode s pos).1 :: runesL s fuel (pos + (Utf8.decode s pos).2) else []
def runesOf (s : ByteArray) : List Nat := runesL s s.size 0

theorem runesL_end (s : ByteArray) (fuel pos : Nat) (h : ¬ pos < s.size) : runesL s fuel pos = [] := by
  cases fuel with
  | zero => rfl
  | succ f => simp [runesL, h]

theorem runesL_len (s : ByteArray) (fuel pos : Nat) : (runesL s fuel pos).length ≤ fuel := by
  induction fuel generalizing pos with
  | zero => simp [runesL]
  | succ f ih => simp only [runesL]; split <;> simp; exact ih _

theorem i32_and1023 (n : Int) : bits .and .i32 n 1023 = n % 1024 := by
  have h1 : (BitVec.ofInt 32 1023).toNat = 2 ^ 10 - 1 := by decide
  have key : (BitVec.ofInt 32 n &&& BitVec.ofInt 32 1023).toNat = (n % ((2 ^ 32 : Nat) : Int)).toNat % 2 ^ 10 := by
    rw [BitVec.toNat_and, BitVec.toNat_ofInt, h1, Nat.and_two_pow_sub_one_eq_mod]
  show IntKind.i32.wrap ((BitVec.ofInt 32 n &&& BitVec.ofInt 32 1023).toNat : Nat) = n % 1024
  rw [key, IntKind.wrap_i32]
  omega

def unitsOne (r : Nat) : List Int := if 65536 ≤ r then [55296 + ((r : Int) - 65536) / 1024, 56320 + ((r : Int) - 65536) % 1024] else [(r : Int)]
def unitsOf (s : ByteArray) : List Int := (runesOf s).flatMap unitsOne

theorem unitsOne_len (r : Nat) : (unitsOne r).length ≤ 2 := by unfold unitsOne; split <;> simp

/-- one step of a range over a string, in whatever block its iterator lies -/
theorem next_some {P : Program} (w : World) (k : Nat) (s : ByteArray) (pos : Nat) (hk : w.heap[k]? = some (.stringIter s pos)) (h : pos < s.size) :
    ∃ W r wd, (∀ ty, (Instr.next (.pointer (some ⟨k, 0, none⟩)) true ty).run P w = .ok (.tuple #[.bool true, .int .i64 (pos : Int), .int .i32 ((r : Nat) : Int)]) W) ∧
      W.heap[k]? = some (.stringIter s (pos + wd)) ∧ (∀ j, j ≠ k → W.heap[j]? = w.heap[j]?) ∧ w.heap.size ≤ W.heap.size ∧ Below k w W ∧
      r ≤ 1114111 ∧ 1 ≤ wd ∧ (∀ fuel, runesL s (fuel + 1) pos = r :: runesL s fuel (pos + wd)) :=
  ⟨_, (Utf8.decode s pos).1, (Utf8.decode s pos).2, fun ty => Lib.run_next_any_at w k s pos ty hk h, Lib.iterAt_heap _ _ _ _ _ hk, fun j hj => Lib.iterAt_other _ _ _ _ _ hj, by rw [Lib.iterAt_size]; exact Nat.le_refl _, Lib.below_iterAt (Below.refl _ _) (Nat.le_refl _) _ _,
   decode_top _ _, decode_width s pos h, fun fuel => by simp [runesL, h]⟩

/-- the model's own list of runes, as numbers -/
theorem runesFrom_eq (s : ByteArray) (fuel pos : Nat) (acc : Array Value) : Conv.runesFrom s fuel pos acc = acc ++ ((runesL s fuel pos).map fun r : Nat => Value.int .i32 (r : Int)).toArray := by
  induction fuel generalizing pos acc with
  | zero => simp [Conv.runesFrom, runesL]
  | succ f ih =>
    simp only [Conv.runesFrom, runesL]
    split
    · rw [ih]; simp
    · simp

/-- a text's runes, written again as a text -/
def reText (s : ByteArray) : ByteArray := runesBytes ((runesOf s).map fun r : Nat => (r : Int))

theorem runesOf_le (s : ByteArray) : (runesOf s).length ≤ s.size := runesL_len _ _ _

theorem reText_size (s : ByteArray) : (reText s).size ≤ 4 * s.size := by
  have h := runesBytes_size_le ((runesOf s).map fun r : Nat => (r : Int))
  have := runesOf_le s
  simp only [List.length_map] at h
  unfold reText
  omega

theorem ownsRow_at {w w' : World} {base : Nat} {e : TypeId} {size : Nat} {v : Value} {n : Nat} {xs : List Value} (h : w.ownsRow base e size v n xs) (hk : ∀ g, v.ownBlock = some g → w'.heap[g]? = w.heap[g]?) : w'.ownsRow base e size v n xs := by
  refine ⟨h.1, ?_⟩
  rcases h.2 with hn | ⟨g, cap, cur, rfl, hb, hgg, rest⟩
  · exact .inl hn
  · exact .inr ⟨g, cap, cur, rfl, hb, by rw [hk g rfl]; exact hgg, rest⟩

theorem ownsRow_base {w : World} {base base' : Nat} {e : TypeId} {size : Nat} {v : Value} {n : Nat} {xs : List Value} (h : w.ownsRow base e size v n xs) (hb : base' ≤ base) : w.ownsRow base' e size v n xs := by
  refine ⟨h.1, ?_⟩
  rcases h.2 with hn | ⟨g, cap, cur, rfl, hg, rest⟩
  · exact .inl hn
  · exact .inr ⟨g, cap, cur, rfl, Nat.le_trans hb hg, rest⟩

/-- a row of single cells that the call owns, as a slice -/
theorem own_open {w : World} {base : Nat} {e : TypeId} {v : Value} {n : Nat} {xs : List Value} (h : w.ownsRow base e 1 v n xs) :
    ∃ a c, v = .slice a n c ∧ (0 < n → ∃ g, a = some ⟨g, 0, none⟩ ∧ base ≤ g ∧ g < w.heap.size ∧ ∀ j, j < n → w.cell? ⟨g, j, none⟩ = xs[j]?) := by
  rcases h.2 with ⟨rfl, rfl⟩ | ⟨g, cap, cur, rfl, hb, hg, _, _, _, ht⟩
  · exact ⟨none, 0, rfl, fun h => absurd h (by omega)⟩
  · refine ⟨_, _, rfl, fun _ => ⟨g, rfl, hb, blk_lt hg, fun j hj => ?_⟩⟩
    rw [blk_cell hg, ← ht, List.getElem?_take, if_pos (by omega)]
    simp

theorem runesL_top (s : ByteArray) (fuel pos : Nat) : ∀ r ∈ runesL s fuel pos, r ≤ 1114111 := by
  induction fuel generalizing pos with
  | zero => simp [runesL]
  | succ f ih =>
    simp only [runesL]
    split
    · intro r hr
      rcases List.mem_cons.1 hr with rfl | hr
      · exact decode_top _ _
      · exact ih _ r hr
    · simp

theorem unitsOf_bd (s : ByteArray) (x : Int) (h : x ∈ unitsOf s) : 0 ≤ x ∧ x ≤ 65535 := by
  obtain ⟨r, hr, hx⟩ := List.mem_flatMap.1 h
  have := runesL_top s s.size 0 r hr
  unfold unitsOne at hx
  split at hx
  · simp at hx; omega
  · simp at hx; omega

def farOf (l : List Nat) : Nat := (l.filter fun r => decide (65535 < r)).length
theorem units_len (l : List Nat) : (l.flatMap unitsOne).length = l.length + farOf l := by
  induction l with
  | nil => rfl
  | cons r l ih =>
    simp only [List.flatMap_cons, List.length_append, ih, List.length_cons, farOf, List.filter_cons, unitsOne]
    by_cases h : 65536 ≤ r
    · rw [if_pos h, if_pos (by simp; omega)]; simp; omega
    · rw [if_neg h, if_neg (by simp; omega)]; simp; omega

end Go.Proofs.YtejpjclbeogajaaDoor
