/-
  Layer 3: the library's functions over texts, as the reader asks them; the reader's remark.
-/
import Derived.Test.YtejpjclbeogajaaDoorLexW
import Derived.Test.YtejpjclbeogajaaDoorShelf
import Derived.Lib.IndexLaws
import Derived.Lib.IndexBytes
namespace Go.Proofs.YtejpjclbeogajaaDoor
open Go.RowKit
set_option linter.unusedVariables false
set_option linter.unusedSimpArgs false

theorem bt_list (s : ByteArray) (i : Nat) : bt s i = (((s.data.toList[i]?).map fun c => (c.toNat : Int)).getD 0) := by
  unfold bt
  by_cases h : i < s.size
  · rw [dif_pos h]
    have : s.data.toList[i]? = some s[i] := by
      rw [Array.getElem?_toList, Array.getElem?_eq_getElem (by simpa using h)]; rfl
    rw [this]; rfl
  · rw [dif_neg h]
    have : s.data.toList[i]? = none := by
      rw [Array.getElem?_toList, Array.getElem?_eq_none (by simpa using h)]
    rw [this]; rfl
theorem bt_piece (s : ByteArray) (a b i : Nat) (h : i < b - a) (hb : b ≤ s.size) : bt (s.extract a b) i = bt s (a + i) := by
  rw [bt_list, bt_list, Lib.extract_data, List.getElem?_take, if_pos h, List.getElem?_drop]
theorem piece_size (s : ByteArray) (a b : Nat) (hb : b ≤ s.size) : (s.extract a b).size = b - a := by
  rw [ByteArray.size_extract]; omega

def isRemark (s : ByteArray) (i : Nat) : Bool := decide (bt s i = 47) && decide (bt s (i + 1) = 47)

theorem prefix_remark (s : ByteArray) (i : Nat) : Lib.hasPrefix (s.extract i s.size).data.toList [47, 47] = isRemark s i := by
  rw [Lib.extract_to_end]
  unfold Lib.hasPrefix isRemark
  rw [bt_list, bt_list]
  have key : ∀ l : List UInt8, List.isPrefixOf [47, 47] (l.drop i) = (decide ((((l[i]?).map fun c => (c.toNat : Int)).getD 0) = 47) && decide ((((l[i + 1]?).map fun c => (c.toNat : Int)).getD 0) = 47)) := by
    intro l
    have e0 : l[i]? = (l.drop i)[0]? := by simp
    have e1 : l[i + 1]? = (l.drop i)[1]? := by simp
    rw [e0, e1]
    generalize l.drop i = m
    have hb : ∀ c : UInt8, (47 == c) = decide ((c.toNat : Int) = 47) := by
      intro c
      rw [Bool.eq_iff_iff, beq_iff_eq, decide_eq_true_eq]
      constructor
      · rintro rfl; rfl
      · intro h
        apply UInt8.toNat_inj.1
        have h' : c.toNat = 47 := by omega
        rw [h']; rfl
    match m with
    | [] => rfl
    | [a] => simp [List.isPrefixOf]
    | a :: b :: r => simp [List.isPrefixOf, hb]
  exact key _

/-- behind a remark: the line's end -/
def remarkEnd (s : ByteArray) (i : Nat) : Nat := spanEnd s notLine i
def RemarkPost (w : World) (R : Nat) (s sg : ByteArray) (i : Nat) (e : Ending) (w' : World) : Prop :=
  e = .returned (.bool (isRemark s i)) ∧ w.grownBy w' (some R) ∧ w'.heap[R]? = some (rdrB s sg (if isRemark s i = true then remarkEnd s i else i))

set_option maxRecDepth 100000 in
theorem enters_line : Enters 107 := fun _ _ => rfl
set_option maxRecDepth 100000 in
theorem enters_blank : Enters 71 := fun _ _ => rfl
set_option maxRecDepth 100000 in
theorem enters_digit : Enters 110 := fun _ _ => rfl
set_option maxRecDepth 100000 in
theorem enters_named : Enters 109 := fun _ _ => rfl
set_option maxRecDepth 100000 in
theorem enters_quote : Enters 112 := fun _ _ => rfl

set_option maxHeartbeats 1000000 in
theorem remark_calls (R : Nat) (s sg : ByteArray) (i : Nat) (w : World) (hs : s.size ≤ 100000) (hi : i ≤ s.size) (hR : w.heap[R]? = some (rdrB s sg i)) :
    Calls Tryd.prog 72 #[.pointer (some ⟨R, 0, none⟩)] w (RemarkPost w R s sg i) := by
  have c0 : w.cell? ⟨R, 0, none⟩ = some (.string s) := by rw [blk_cell hR]; rfl
  have c1 : w.cell? ⟨R, 1, none⟩ = some (.int .i64 i) := by rw [blk_cell hR]; rfl
  have lR := blk_lt hR
  have hi0 : (0 : Int) ≤ (i : Int) := by omega
  have hi1 : (i : Int) ≤ (s.size : Int) := by omega
  have hcal := fun (W : World) => Tryd.strings_HasPrefix (s.extract i s.size) ⟨#[47, 47]⟩ W
  have hpr : Lib.hasPrefix (s.extract i s.size).data.toList (⟨#[47, 47]⟩ : ByteArray).data.toList = isRemark s i := prefix_remark s i
  rw [hpr] at hcal
  have HPR := Lib.hid hpr
  clear hpr
  go_enter Tryd.func72, Tryd.ntmps72
  cases hr : isRemark s i with
  | true =>
    rw [hr] at hcal
    have HR := Lib.hid hr
    clear hr
    go_wp2_with fail
    (have hX := BelowOf.cell w; refine wp_region_below_lit (by kernel_rfl) (by kernel_rfl) ?_; (repeat (go_big_quiet_step ((go_at_call 106; exact quietS ((hcal _).mono fun e w' h => ⟨h.1, h.2.symm⟩))))); refine wpQuiet_nil ?_); intro wB hw'; obtain ⟨⟨wB', hB'⟩, hw''⟩ := hw'; have hB : Below (World.heap w).size w wB := (by rw [hw'']; exact hB'); clear hw'' hB' hX; clear wB'; have hzB := hB.size; obtain ⟨hcB, hfB⟩ := bcell hB
    have hRB := blk_below hR hB lR
    clear hcB hfB c0 c1
    go_wp2_with fail
    refine (while_calls 107 notLine lexLine_calls enters_line R s sg i wB hs hi hRB).mono ?_
    rintro e w2 ⟨rfl, hg, hR2⟩
    go_wp2_with fail
    go_ret
    exact ⟨by rw [HR.out]; rfl, World.grownBy.trans (grown_below (World.grownBy.refl _ _) hB) hg, by rw [HR.out]; exact hR2⟩
  | false =>
    rw [hr] at hcal
    have HR := Lib.hid hr
    clear hr
    go_wp2_with fail
    (have hX := BelowOf.cell w; refine wp_region_below_lit (by kernel_rfl) (by kernel_rfl) ?_; (repeat (go_big_quiet_step ((go_at_call 106; exact quietS ((hcal _).mono fun e w' h => ⟨h.1, h.2.symm⟩))))); refine wpQuiet_nil ?_); intro wB hw'; obtain ⟨⟨wB', hB'⟩, hw''⟩ := hw'; have hB : Below (World.heap w).size w wB := (by rw [hw'']; exact hB'); clear hw'' hB' hX; clear wB'; have hzB := hB.size; obtain ⟨hcB, hfB⟩ := bcell hB
    have hRB := blk_below hR hB lR
    clear hcB hfB c0 c1
    go_wp2_with fail
    go_ret
    exact ⟨by rw [HR.out]; rfl, grown_below (World.grownBy.refl _ _) hB, by rw [HR.out]; exact hRB⟩

end Go.Proofs.YtejpjclbeogajaaDoor
