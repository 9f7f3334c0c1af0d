/-
  LexNumbers.
-/
import Derived.Test.YtlfpakopahmdiaaAwake03
import Derived.Test.YtlfpakopahmdiaaRefN
import Derived.OpenShut
namespace Go.Proofs.Ytlfpakopahmdiaa
open Go.RowKit
set_option linter.unusedVariables false
set_option linter.unusedSimpArgs false

set_option maxHeartbeats 1000000 in
set_option maxRecDepth 100000 in
theorem lexNumbers_walk (s : ByteArray) (size : Int) (sign : Bool) (w : World) (hs : s.size ≤ 140737488351232) (hz : (Lit.int .i64 size).wf = true) :
    Calls Try.prog 11 #[.string s, .int .i64 size, .bool sign] w fun e w' => e = .returned (.bool true) ∧ Below w.heap.size w w' := by
  obtain ⟨z0, z1⟩ := bounds_i64 hz
  clear hz
  by_cases hbig : 1000 < s.size
  · have hd : decide ((1000 : Int) < (s.size : Int)) = true := decide_eq_true (by omega)
    clear hbig
    go_enter Try.func11, Try.ntmps11
    go_wp2_with (first | (go_at_call 34; refine (awake03_calls _).mono ?_; rintro e wB ⟨rfl, hB⟩; have hzB := hB.size; (try simp only [World.size_alloc, World.size_setCell, World.size_drew] at hzB); obtain ⟨hcB, hfB⟩ := bcell hB))
    go_ret
    exact ⟨rfl, hB⟩
  · have hd : decide ((1000 : Int) < (s.size : Int)) = false := decide_eq_false (by omega)
    have hn := fun (W : World) => lexNumber_calls s size sign W (by omega)
    have hr := fun (W : World) => refNumber_calls s size sign W (by omega) z0 z1
    have hs2 : s.size ≤ 100000 := by omega
    cases hno : numOf s size sign with
    | none =>
      rw [hno] at hn hr
      clear hno hbig
      go_enter Try.func11, Try.ntmps11
      go_wp2_with (first | (go_at_call 34; refine (awake03_calls _).mono ?_; rintro e wB ⟨rfl, hB⟩; have hzB := hB.size; (try simp only [World.size_alloc, World.size_setCell, World.size_drew] at hzB); obtain ⟨hcB, hfB⟩ := bcell hB))
      refine (hn _).mono ?_
      rintro e w2 ⟨rfl, hB2⟩
      simp only [numV]
      go_wp2_with fail
      refine (hr _).mono ?_
      rintro e w3 ⟨x, ok, rfl, rfl, hok⟩
      simp only [] at hok
      subst hok
      go_wp2
      go_ret
      exact ⟨rfl, hB.trans (hB2.mono hB.size)⟩
    | some v =>
      rw [hno] at hn hr
      clear hno hbig
      go_enter Try.func11, Try.ntmps11
      go_wp2_with (first | (go_at_call 34; refine (awake03_calls _).mono ?_; rintro e wB ⟨rfl, hB⟩; have hzB := hB.size; (try simp only [World.size_alloc, World.size_setCell, World.size_drew] at hzB); obtain ⟨hcB, hfB⟩ := bcell hB))
      refine (hn _).mono ?_
      rintro e w2 ⟨rfl, hB2⟩
      simp only [numV]
      go_wp2_with fail
      refine (hr _).mono ?_
      rintro e w3 ⟨x, ok, rfl, rfl, hok⟩
      simp only [] at hok
      obtain ⟨h1, h2⟩ := hok
      subst h1
      subst h2
      go_wp2
      go_ret
      exact ⟨rfl, hB.trans (hB2.mono hB.size)⟩

end Go.Proofs.Ytlfpakopahmdiaa
