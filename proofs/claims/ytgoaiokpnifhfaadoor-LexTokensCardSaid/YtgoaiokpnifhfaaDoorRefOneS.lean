/-
  The document's tokens: signs, none, the end; the token at a place, whole.
-/
import Derived.Test.YtgoaiokpnifhfaaDoorRefOneQ
namespace Go.Proofs.YtgoaiokpnifhfaaDoor
open Go.RowKit
set_option linter.unusedVariables false
set_option linter.unusedSimpArgs false

def OneSignPost (w : World) (s sg : ByteArray) (i : Nat) (e : Ending) (w' : World) : Prop :=
  IfPost (hasSign sg (bt s i) = true) (OneOk w i 4 (s.extract i (i + 1)) (i + 1) e w') (OneNo w i e w')


set_option maxHeartbeats 4000000 in
set_option maxRecDepth 100000 in
theorem one_sign (s sg : ByteArray) (i : Nat) (w : World) (hs : s.size ≤ 100000) (hsg : sg.size ≤ 100000) (hi : i < s.size) (hl : isLetter (bt s i) = false) (hn : numStart s i = false) (hc34 : ¬ bt s i = 34) :
    Calls Tryd.prog 44 #[.string s, .string sg, .int .i64 (i : Int)] w (OneSignPost w s sg i) := by
  have hiI : (i : Int) < (s.size : Int) := by omega
  have hi0 : (0 : Int) ≤ (i : Int) := by omega
  have hbi := bt_in s i hi
  have hcl := fun (W : World) => refLetter_calls (bt s i) W (bt_bd s i).1 (bt_bd s i).2
  have hcd := fun (W : World) => refDigit_calls (bt s i) W (bt_bd s i).1 (bt_bd s i).2
  have hch := fun (W : World) => refHas_calls sg (bt s i) hsg W
  have hca := fun (W : World) => refAt_calls s ((i : Int) + 1) (by omega) hs W
  have ej : ((i : Int) + 1).toNat = i + 1 := by omega
  rw [ej] at hca
  have hce := fun (W : World) => refDigit_calls (bt s (i + 1)) W (bt_bd s (i + 1)).1 (bt_bd s (i + 1)).2
  rw [numStart, Bool.or_eq_false_iff] at hn
  obtain ⟨hn1, hn2⟩ := hn
  rw [hl] at hcl
  rw [hn1] at hcd
  obtain ⟨c, hc⟩ : ∃ c, c = bt s i := ⟨_, rfl⟩
  rw [← hc] at hcl hcd hch hbi hc34 hn2
  have HC := Lib.hid hc
  clear hc ej hl hn1
  by_cases h45 : c = 45
  · have b45 : (c == 45) = true := by rw [h45]; rfl
    rw [decide_eq_true h45, Bool.true_and] at hn2
    rw [hn2] at hce
    clear h45 hn2
    go_enter Tryd.func44, Tryd.ntmps44
    go_wp2_with fail
    refine (hcl _).mono ?_
    rintro e w' ⟨rfl, rfl⟩
    go_wp2_with fail
    refine (hcd _).mono ?_
    rintro e w' ⟨rfl, rfl⟩
    go_wp2_with fail
    refine (hca _).mono ?_
    rintro e w' ⟨rfl, rfl⟩
    go_wp2_with fail
    refine (hce _).mono ?_
    rintro e w' ⟨rfl, rfl⟩
    clear hcl hcd hca hce
    have b34 : (c == 34) = false := by rw [beq_eq_false_iff_ne]; exact hc34
    clear hc34
    cases hh : hasSign sg c with
    | true =>
      rw [hh] at hch
      have HH := Lib.hid hh
      clear hh
      go_wp2_with fail
      refine (hch _).mono ?_
      rintro e w' ⟨rfl, rfl⟩
      go_wp2_with fail
      refine bodyPost_ret (v := oneV 4 (s.extract i (i + 1)) i (i + 1) true) (by simp [results, Tryd.results44, go_sem, oneV, *]) rfl ?_
      unfold OneSignPost
      rw [← HC.out]
      refine ifPost_yes HH.out ?_
      exact ⟨rfl, by (repeat' (first | (with_reducible exact Below.refl _ _) | (with_reducible assumption) | (with_reducible refine Below.alloc ?_ ?_ _) | (with_reducible refine Below.drew ?_) | (with_reducible refine Below.setCell ?_ ?_ _) | (with_reducible refine Below.trans ?_ (Below.mono (by assumption) ?_)) | go_size))⟩
    | false =>
      rw [hh] at hch
      have HH := Lib.hid hh
      clear hh
      go_wp2_with fail
      refine (hch _).mono ?_
      rintro e w' ⟨rfl, rfl⟩
      go_wp2_with fail
      refine bodyPost_ret (v := oneV 0 ⟨#[]⟩ i i false) (by simp [results, Tryd.results44, go_sem, oneV, *]) rfl ?_
      unfold OneSignPost
      rw [← HC.out]
      refine ifPost_no (by rw [HH.out]; simp) ?_
      exact ⟨_, _, _, rfl, by (repeat' (first | (with_reducible exact Below.refl _ _) | (with_reducible assumption) | (with_reducible refine Below.alloc ?_ ?_ _) | (with_reducible refine Below.drew ?_) | (with_reducible refine Below.setCell ?_ ?_ _) | (with_reducible refine Below.trans ?_ (Below.mono (by assumption) ?_)) | go_size))⟩
  · have b45 : (c == 45) = false := by rw [beq_eq_false_iff_ne]; exact h45
    clear h45 hn2 hca hce
    go_enter Tryd.func44, Tryd.ntmps44
    go_wp2_with fail
    refine (hcl _).mono ?_
    rintro e w' ⟨rfl, rfl⟩
    go_wp2_with fail
    refine (hcd _).mono ?_
    rintro e w' ⟨rfl, rfl⟩
    clear hcl hcd
    have b34 : (c == 34) = false := by rw [beq_eq_false_iff_ne]; exact hc34
    clear hc34
    cases hh : hasSign sg c with
    | true =>
      rw [hh] at hch
      have HH := Lib.hid hh
      clear hh
      go_wp2_with fail
      refine (hch _).mono ?_
      rintro e w' ⟨rfl, rfl⟩
      go_wp2_with fail
      refine bodyPost_ret (v := oneV 4 (s.extract i (i + 1)) i (i + 1) true) (by simp [results, Tryd.results44, go_sem, oneV, *]) rfl ?_
      unfold OneSignPost
      rw [← HC.out]
      refine ifPost_yes HH.out ?_
      exact ⟨rfl, by (repeat' (first | (with_reducible exact Below.refl _ _) | (with_reducible assumption) | (with_reducible refine Below.alloc ?_ ?_ _) | (with_reducible refine Below.drew ?_) | (with_reducible refine Below.setCell ?_ ?_ _) | (with_reducible refine Below.trans ?_ (Below.mono (by assumption) ?_)) | go_size))⟩
    | false =>
      rw [hh] at hch
      have HH := Lib.hid hh
      clear hh
      go_wp2_with fail
      refine (hch _).mono ?_
      rintro e w' ⟨rfl, rfl⟩
      go_wp2_with fail
      refine bodyPost_ret (v := oneV 0 ⟨#[]⟩ i i false) (by simp [results, Tryd.results44, go_sem, oneV, *]) rfl ?_
      unfold OneSignPost
      rw [← HC.out]
      refine ifPost_no (by rw [HH.out]; simp) ?_
      exact ⟨_, _, _, rfl, by (repeat' (first | (with_reducible exact Below.refl _ _) | (with_reducible assumption) | (with_reducible refine Below.alloc ?_ ?_ _) | (with_reducible refine Below.drew ?_) | (with_reducible refine Below.setCell ?_ ?_ _) | (with_reducible refine Below.trans ?_ (Below.mono (by assumption) ?_)) | go_size))⟩

set_option maxHeartbeats 1000000 in
set_option maxRecDepth 100000 in
theorem one_end (s sg : ByteArray) (i : Nat) (w : World) (hs : s.size ≤ 100000) (hi : s.size ≤ i) (hi2 : i ≤ 100000) :
    Calls Tryd.prog 44 #[.string s, .string sg, .int .i64 (i : Int)] w (OneOk w i 0 ⟨#[]⟩ i) := by
  have hiI : (s.size : Int) ≤ (i : Int) := by omega
  go_enter Tryd.func44, Tryd.ntmps44
  go_wp2_with fail
  refine bodyPost_ret (v := oneV 0 ⟨#[]⟩ i i true) (by simp [results, Tryd.results44, go_sem, oneV, *]) rfl ?_
  exact ⟨rfl, by (repeat' (first | (with_reducible exact Below.refl _ _) | (with_reducible assumption) | (with_reducible refine Below.alloc ?_ ?_ _) | (with_reducible refine Below.drew ?_) | (with_reducible refine Below.setCell ?_ ?_ _) | (with_reducible refine Below.trans ?_ (Below.mono (by assumption) ?_)) | go_size))⟩

/-- the token at a place -/
def OnePost (w : World) (s sg : ByteArray) (i : Nat) (e : Ending) (w' : World) : Prop :=
  match oneB s sg i with
  | some (k, t, x) => OneOk w i k t x e w'
  | none => OneNo w i e w'

theorem onePost_ite {w : World} {s sg : ByteArray} {i : Nat} {e : Ending} {w' : World} {c : Prop} [Decidable c] {k : Int} {t : ByteArray} {x : Nat} (ho : oneB s sg i = if c then some (k, t, x) else none) (h : IfPost c (OneOk w i k t x e w') (OneNo w i e w')) : OnePost w s sg i e w' := by
  unfold OnePost
  rw [ho]
  by_cases hc : c
  · rw [if_pos hc]; exact h.yes hc
  · rw [if_neg hc]; exact h.no hc

theorem onePost_some {w : World} {s sg : ByteArray} {i : Nat} {e : Ending} {w' : World} {k : Int} {t : ByteArray} {x : Nat} (ho : oneB s sg i = some (k, t, x)) (h : OneOk w i k t x e w') : OnePost w s sg i e w' := by
  unfold OnePost
  rw [ho]
  exact h

theorem one_calls (s sg : ByteArray) (i : Nat) (w : World) (hT : Tabs w) (hs : s.size ≤ 100000) (hsg : sg.size ≤ 100000) (hi : i ≤ s.size) :
    Calls Tryd.prog 44 #[.string s, .string sg, .int .i64 (i : Int)] w (OnePost w s sg i) := by
  by_cases h : i = s.size
  · exact (one_end s sg i w hs (by omega) (by omega)).mono fun e w' h2 => onePost_some (oneB_end s sg i h) h2
  · have hlt : i < s.size := by omega
    by_cases hl : isLetter (bt s i) = true
    · exact (one_name s sg i w hs hlt hl).mono fun e w' h2 => onePost_some (oneB_name s sg i hlt hl) h2
    · have hl' : isLetter (bt s i) = false := by simpa using hl
      by_cases hn : numStart s i = true
      · exact (one_num s sg i w hs hlt hl' hn).mono fun e w' h2 => onePost_ite (oneB_num s sg i hlt hl' hn) h2
      · have hn' : numStart s i = false := by simpa using hn
        by_cases hq : bt s i = 34
        · exact (one_quote s sg i w hT hs hlt hq).mono fun e w' h2 => onePost_ite (oneB_quote s sg i hlt hq) h2
        · exact (one_sign s sg i w hs hsg hlt hl' hn' hq).mono fun e w' h2 => onePost_ite (oneB_sign s sg i hlt hl' hn' hq) h2

end Go.Proofs.YtgoaiokpnifhfaaDoor
