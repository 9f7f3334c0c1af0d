/-
  The document's SameInts: of two lists that are the same it says so.
-/
import Derived.Test.YtejpjclbeogajaaDoorRegion
import Derived.Test.YtejpjclbeogajaaDoorRunes
namespace Go.Proofs.YtejpjclbeogajaaDoor
open Go.RowKit
set_option linter.unusedVariables false
set_option linter.unusedSimpArgs false

def iget (xs : List Int) (j : Nat) : Int := xs[j]!

/-- a list of numbers lies at an address -/
def IntsAt (w : World) (A : Option Addr) (xs : List Int) : Prop := 0 < xs.length → ∃ b o, A = some ⟨b, o, none⟩ ∧ b < w.heap.size ∧ ∀ j, j < xs.length → w.cell? ⟨b, o + j, none⟩ = some (.int .i64 (iget xs j))

theorem IntsAt.below {w w' : World} {A : Option Addr} {xs : List Int} (h : IntsAt w A xs) (hb : Below w.heap.size w w') : IntsAt w' A xs := by
  intro h0
  obtain ⟨b, o, hA, hl, hc⟩ := h h0
  exact ⟨b, o, hA, Nat.lt_of_lt_of_le hl hb.size, fun j hj => by rw [hb.cell (p := ⟨b, o + j, none⟩) hl]; exact hc j hj⟩

theorem IntsAt.of_block {w : World} {g : Nat} {xs : List Int} {T : TypeId} (h : w.heap[g]? = some (.cells (xs.map (Value.int .i64)).toArray T (0, 0))) : IntsAt w (some ⟨g, 0, none⟩) xs :=
  fun _ => ⟨g, 0, rfl, blk_lt h, fun j hj => by rw [Nat.zero_add, blk_cell h, ints_get hj]; rfl⟩

theorem IntsAt.of_owned {w : World} {base : Nat} {e : TypeId} {v : Value} {xs : List Int} (h : w.ownsRow base e 1 v xs.length (xs.map (Value.int .i64))) : ∃ A c, v = .slice A xs.length c ∧ IntsAt w A xs := by
  obtain ⟨a, c, rfl, ho⟩ := own_open h
  refine ⟨a, c, rfl, fun h0 => ?_⟩
  obtain ⟨g, rfl, _, hg, hc⟩ := ho h0
  exact ⟨g, 0, rfl, hg, fun j hj => by rw [Nat.zero_add, hc j hj]; simp [iget, hj]⟩

set_option maxHeartbeats 1000000 in
set_option maxRecDepth 100000 in
theorem sameInts_calls (A B : Option Addr) (c d : Nat) (xs : List Int) (w : World) (hn : xs.length ≤ 1000000) (hA : IntsAt w A xs) (hB : IntsAt w B xs) :
    Calls Tryd.prog 85 #[.slice A xs.length c, .slice B xs.length d] w fun e w' => e = .returned (.bool true) ∧ Below w.heap.size w w' := by
  have HA := Lib.hid hA
  have HB := Lib.hid hB
  clear hA hB
  go_enter Tryd.func85, Tryd.ntmps85
  go_wp2
  go_loopw [5] (fun v5 wr => ∃ k : Nat, k ≤ xs.length ∧ v5 = .int .i64 k ∧ Below w.heap.size w wr) (fun v5 _ => xs.length - (intOf v5).toNat)
  case atStart => exact ⟨0, by omega, rfl, Below.refl _ _⟩
  case round =>
    obtain ⟨k, hk, rfl, hbw⟩ := hrel
    by_cases hkn : k < xs.length
    · obtain ⟨b1, o1, rfl, hl1, hc1⟩ := HA.out (by omega)
      obtain ⟨b2, o2, rfl, hl2, hc2⟩ := HB.out (by omega)
      have r1 : wr.cell? ⟨b1, o1 + k, none⟩ = some (.int .i64 (iget xs k)) := by rw [hbw.cell (p := ⟨b1, o1 + k, none⟩) hl1]; exact hc1 k hkn
      have r2 : wr.cell? ⟨b2, o2 + k, none⟩ = some (.int .i64 (iget xs k)) := by rw [hbw.cell (p := ⟨b2, o2 + k, none⟩) hl2]; exact hc2 k hkn
      have hkI : (k : Int) < (xs.length : Int) := by omega
      clear hc1 hc2
      go_wp2
      go_quiet (fail)
      go_wp2
      go_roundw
      case rel => exact ⟨k + 1, by omega, by go_num, by first | exact below_drewN hbw _ | exact hbw.drew⟩
      case measure => simp [intOf]; omega
    · go_wp2
      go_ret
      exact ⟨rfl, hbw⟩

end Go.Proofs.YtejpjclbeogajaaDoor
