/-
  lex.good: is a text a number's?
-/
import Derived.Test.YtejpjclbeogajaaDoorLexS
namespace Go.Proofs.YtejpjclbeogajaaDoor
open Go.RowKit
set_option linter.unusedVariables false
set_option linter.unusedSimpArgs false

/-- a minus ahead -/
def hasMinus (s : ByteArray) : Bool := decide (bt s 0 = 45)
/-- where a number's digits begin -/
def digFrom (s : ByteArray) : Nat := if hasMinus s = true then 1 else 0
def digits (s : ByteArray) : ByteArray := s.extract (digFrom s) s.size
def goodB (s : ByteArray) : Bool := decide (1 ≤ (digits s).size) && decide ((digits s).size ≤ 20) && (decide ((digits s).size = 1) || !decide (bt (digits s) 0 = 48)) && !(s.data.toList == [45, 48])

theorem digFrom_le (s : ByteArray) : digFrom s ≤ s.size := by
  unfold digFrom
  split
  · rename_i h
    unfold hasMinus at h
    by_cases hz : 0 < s.size
    · omega
    · rw [bt_out s 0 hz] at h; simp at h
  · omega

theorem trim_minus (s : ByteArray) : (⟨(Lib.trimPrefix s.data.toList [45]).toArray⟩ : ByteArray) = digits s := by
  apply ByteArray.ext
  apply Array.ext'
  show (Lib.trimPrefix s.data.toList [45]) = (s.extract (digFrom s) s.size).data.toList
  rw [Lib.extract_to_end]
  unfold Lib.trimPrefix Lib.hasPrefix digFrom hasMinus
  rw [bt_list]
  have key : ∀ l : List UInt8, (if List.isPrefixOf [45] l = true then l.drop 1 else l) = l.drop (if decide ((((l[0]?).map fun c => (c.toNat : Int)).getD 0) = 45) = true then 1 else 0) := by
    intro l
    match l with
    | [] => rfl
    | a :: r =>
      have hb : (45 == a) = decide ((a.toNat : Int) = 45) := by
        rw [Bool.eq_iff_iff, beq_iff_eq, decide_eq_true_eq]
        constructor
        · rintro rfl; rfl
        · intro h
          apply UInt8.toNat_inj.1
          have h' : a.toNat = 45 := by omega
          rw [h']; rfl
      simp only [List.isPrefixOf, hb, Bool.and_true]
      show _ = List.drop (if decide ((a.toNat : Int) = 45) = true then 1 else 0) (a :: r)
      split <;> simp_all
  exact key _

set_option maxHeartbeats 1000000 in
theorem lexGood_calls (s : ByteArray) (w : World) (hs : s.size ≤ 100000) :
    Calls Tryd.prog 111 #[.string s] w fun e w' => e = .returned (.bool (goodB s)) ∧ w = w' := by
  have hcal := fun (W : World) => Tryd.strings_TrimPrefix s ⟨#[45]⟩ W
  have htr : (⟨(Lib.trimPrefix s.data.toList (⟨#[45]⟩ : ByteArray).data.toList).toArray⟩ : ByteArray) = digits s := trim_minus s
  rw [htr] at hcal
  have hdz : (digits s).size ≤ s.size := by rw [digits, piece_size _ _ _ (Nat.le_refl _)]; omega
  obtain ⟨d, hd⟩ : ∃ d, d = digits s := ⟨_, rfl⟩
  rw [← hd] at hcal hdz
  have hgd : goodB s = (decide (1 ≤ d.size) && decide (d.size ≤ 20) && (decide (d.size = 1) || !decide (bt d 0 = 48)) && !(s.data.toList == [45, 48])) := by rw [goodB, ← hd]
  have HGD := Lib.hid hgd
  clear hgd htr hd
  go_enter Tryd.func111, Tryd.ntmps111
  go_wp2_with fail
  refine (hcal _).mono ?_
  rintro e w' ⟨rfl, rfl⟩
  clear hcal
  have hbt : ∀ h : 0 < d.size, ((d[0]'h).toNat : Int) = bt d 0 := fun h => bt_in d 0 h
  have HBT := Lib.hid hbt
  clear hbt
  go_wp2_with fail
  all_goals go_ret
  all_goals refine ⟨ret_bool ?_, rfl⟩
  all_goals rw [HGD.out]
  · have h1 : d.size = 1 := by omega
    simp [h1, Go.ByteArray.toList_eq]
  · have h1 : ¬ d.size = 1 := by omega
    have h0 : 0 < d.size := by assumption
    have h2 : bt d 0 = 48 := by rw [← HBT.out h0]; assumption
    simp [h1, h2]
  · have h1 : ¬ d.size = 1 := by omega
    have h0 : 0 < d.size := by assumption
    have h2 : ¬ bt d 0 = 48 := by rw [← HBT.out h0]; assumption
    have h3 : d.size ≤ 20 := by omega
    have e1 : ((d.size : Int) == 1) = false := by rw [beq_eq_false_iff_ne]; omega
    have e2 : (((d[0]'h0).toNat : Int) != 48) = true := by rw [HBT.out h0]; simp [bne, h2]
    show ((((d.size : Int) == 1) || (((d[0]'h0).toNat : Int) != 48)) && !s.toList == [45, 48]) = _
    rw [e1, e2]
    simp [h1, h2, h3, Go.ByteArray.toList_eq]; omega
  · have h1 : ¬ d.size ≤ 20 := by omega
    simp [h1]
  · have h1 : ¬ 1 ≤ d.size := by omega
    simp [h1]

end Go.Proofs.YtejpjclbeogajaaDoor
