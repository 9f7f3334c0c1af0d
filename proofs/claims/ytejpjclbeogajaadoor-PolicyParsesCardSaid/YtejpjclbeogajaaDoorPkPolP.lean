/-
  Parts: PolP, PolQ.
-/
import Derived.Test.YtejpjclbeogajaaDoorPkKdP
import Derived.Test.YtejpjclbeogajaaDoorPkPfG

/-
  A policy's text: names between points, and its lines, as plain functions; the document's say the same.
-/
namespace Go.Proofs.YtejpjclbeogajaaDoor
open Go.RowKit
open Go.Proofs.YtejpjclbeogajaaDoorP
open Go.Proofs.YtejpjclbeogajaaDoorW.PrintWords (Kd LeO at_rounds Ev)
set_option linter.unusedVariables false
set_option linter.unusedSimpArgs false

abbrev STok := Pf.S103
/-- is there a name, or a quoted text? -/
def labT (l : List Tok) (i : Nat) : Bool := match l[i]? with | some t => decide (t.kind = 1) || decide (t.kind = 3) | none => false
/-- is there that sign? -/
def sigT (l : List Tok) (i : Nat) (c : ByteArray) : Bool := match l[i]? with | some t => decide (t.kind = 4) && eqS t.text c | none => false
def cDot : ByteArray := ⟨#[46]⟩
def cSem : ByteArray := ⟨#[59]⟩
def textT (l : List Tok) (i : Nat) : ByteArray := ((l[i]?).getD tok0).text
/-- names between points, and the place behind -/
def namesF (l : List Tok) : Nat → Nat → Option (List ByteArray × Nat)
  | 0, _ => none
  | f + 1, i => if labT l i = true then (if sigT l (i + 1) cDot = true then (match namesF l f (i + 2) with | some (x, n) => some (textT l i :: x, n) | none => none) else some ([textT l i], i + 1)) else none
def namesT (l : List Tok) (i : Nat) : Option (List ByteArray × Nat) := namesF l (l.length + 1) i

/-! ### what is read of tokens -/
theorem rd_tok (l : List Tok) (i : Nat) (h : i < l.length) : Pf.rd_T103 (l.map tT) (i : Int) = tT (l[i]'h) := by
  unfold Pf.rd_T103
  rw [Int.toNat_natCast, List.getD_eq_getElem?_getD, List.getElem?_map, List.getElem?_eq_getElem h]; rfl
theorem labT_lt {l : List Tok} {i : Nat} (h : i < l.length) : labT l i = (decide ((l[i]'h).kind = 1) || decide ((l[i]'h).kind = 3)) := by
  unfold labT; rw [List.getElem?_eq_getElem h]
theorem labT_ge {l : List Tok} {i : Nat} (h : l.length ≤ i) : labT l i = false := by
  unfold labT; rw [List.getElem?_eq_none h]
theorem sigT_lt {l : List Tok} {i : Nat} {c : ByteArray} (h : i < l.length) : sigT l i c = (decide ((l[i]'h).kind = 4) && eqS (l[i]'h).text c) := by
  unfold sigT; rw [List.getElem?_eq_getElem h]
theorem sigT_ge {l : List Tok} {i : Nat} {c : ByteArray} (h : l.length ≤ i) : sigT l i c = false := by
  unfold sigT; rw [List.getElem?_eq_none h]
theorem textT_lt {l : List Tok} {i : Nat} (h : i < l.length) : textT l i = (l[i]'h).text := by
  unfold textT; rw [List.getElem?_eq_getElem h]; rfl
theorem labT_bd {l : List Tok} {i : Nat} (h : labT l i = true) : i < l.length := by
  by_cases e : i < l.length
  · exact e
  · rw [labT_ge (by omega)] at h; cases h
theorem sigT_bd {l : List Tok} {i : Nat} {c : ByteArray} (h : sigT l i c = true) : i < l.length := by
  by_cases e : i < l.length
  · exact e
  · rw [sigT_ge (by omega)] at h; cases h
theorem eqS_list (a b : ByteArray) : (a.toList == b.toList) = eqS a b := by rw [eqS, ← Go.ByteArray.toList_eq, ← Go.ByteArray.toList_eq]
theorem eqS_listP (a b : ByteArray) : a.toList = b.toList ↔ eqS a b = true := by rw [← eqS_list, beq_iff_eq]
theorem cDot_list : cDot.toList = [46] := by rw [Go.ByteArray.toList_eq]; rfl
theorem w64 {i : Nat} (h : i ≤ 9000000) : wrap64 (i : Int) = (i : Int) := IntWalk.wrap64_in _ (by omega)

/-! ### the document's -/
theorem isSign_is (l : List Tok) (i : Nat) (c : ByteArray) : Pf.transomref16_isSign.f (l.map tT) (i : Int) c = some (sigT l i c) := by
  unfold Pf.transomref16_isSign.f
  by_cases h : i < l.length
  · rw [if_pos (by rw [List.length_map]; omega), if_pos (by omega), rd_tok l i h, sigT_lt h]
    by_cases e : (l[i]'h).kind = 4
    · rw [if_pos (show (tT (l[i]'h)).f0 = 4 from e), decide_eq_true e, Bool.true_and, ← eqS_list]; rfl
    · rw [if_neg (show ¬ (tT (l[i]'h)).f0 = 4 from e), decide_eq_false e, Bool.false_and]
  · rw [if_neg (by rw [List.length_map]; omega), sigT_ge (by omega)]
theorem isLabel_is (l : List Tok) (i : Nat) : Pf.transomref16_isLabel.f (l.map tT) (i : Int) = some (labT l i) := by
  unfold Pf.transomref16_isLabel.f
  by_cases h : i < l.length
  · rw [if_pos (by rw [List.length_map]; omega), if_pos (by omega), rd_tok l i h, labT_lt h]
    by_cases e : (l[i]'h).kind = 1
    · rw [if_pos (show (tT (l[i]'h)).f0 = 1 from e), decide_eq_true e]; rfl
    · rw [if_neg (show ¬ (tT (l[i]'h)).f0 = 1 from e), decide_eq_false e, Bool.false_or]; rfl
  · rw [if_neg (by rw [List.length_map]; omega), labT_ge (by omega)]
/-- what names come to -/
def namesO (acc : List ByteArray) (o : Option (List ByteArray × Nat)) (r : List ByteArray × Int × Bool) : Prop := match o with
  | some (x, n) => r = (acc ++ x, (n : Int), true)
  | none => r.1 = [] ∧ r.2.2 = false
theorem refNames_go (l : List Tok) (hl : l.length ≤ 5000) : ∀ (f i : Nat) (acc : List ByteArray), i ≤ l.length + 2 → l.length + 3 ≤ 2 * f + i → acc.length ≤ i → ∃ r, Pf.transomref16_Names.l0 f (l.map tT) (i : Int) acc = some r ∧ namesO acc (namesF l f i) r := by
  intro f
  induction f with
  | zero => intro i acc h1 h2; omega
  | succ f ih =>
    intro i acc h1 h2 h3
    simp only [Pf.transomref16_Names.l0, namesF]
    rw [isLabel_is, Option.bind_some]
    cases hlab : labT l i with
    | false => exact ⟨_, rfl, rfl, rfl⟩
    | true =>
      have hi := labT_bd hlab
      rw [if_pos rfl, if_pos (by omega), if_pos (by rw [List.length_map]; omega), if_pos (by omega), Option.bind_some, rd_tok l i hi, show ((i : Int) + 1) = ((i + 1 : Nat) : Int) from rfl, w64 (by omega), isSign_is, Option.bind_some, if_pos rfl]
      have e1 : (tT (l[i]'hi)).f1 = textT l i := (textT_lt hi).symm
      rw [e1]
      cases hs : sigT l (i + 1) ⟨#[46]⟩ with
      | true =>
        have hi2 := sigT_bd hs
        rw [if_pos rfl, show ((i : Int) + 2) = ((i + 2 : Nat) : Int) from rfl, w64 (by omega)]
        obtain ⟨r, hr, ho⟩ := ih (i + 2) (acc ++ [textT l i]) (by omega) (by omega) (by rw [List.length_append, List.length_singleton]; omega)
        refine ⟨r, hr, ?_⟩
        rw [if_pos (show sigT l (i + 1) cDot = true from hs)]
        cases hn : namesF l f (i + 2) with
        | none => rw [hn] at ho; exact ho
        | some x =>
          obtain ⟨x, n⟩ := x
          rw [hn] at ho
          show r = _
          rw [show r = (acc ++ [textT l i] ++ x, (n : Int), true) from ho, List.append_assoc]; rfl
      | false =>
        rw [if_neg (by simp), if_neg (by rw [show sigT l (i + 1) cDot = false from hs]; simp)]
        exact ⟨_, rfl, rfl⟩
theorem refNames_is (l : List Tok) (hl : l.length ≤ 5000) (i : Nat) (h1 : 1 ≤ i) (h2 : i ≤ l.length) : ∃ r, Pf.transomref16_Names.f (l.length + 1) (l.map tT) (i : Int) = some r ∧ namesO [] (namesT l i) r :=
  refNames_go l hl (l.length + 1) i [] (by omega) (by omega) (Nat.zero_le _)

/-! ### the program's names -/
theorem names_go (l : List Tok) (hl : l.length ≤ 5000) : ∀ (f i : Nat) (acc : List ByteArray), i ≤ l.length + 2 → l.length + 3 ≤ 2 * f + i → acc.length ≤ i → ∃ r, Pf.mask_Names.l0 (2 * f) (l.map tT) (i : Int) acc = some r ∧ namesO acc (namesF l f i) r := by
  intro f
  induction f with
  | zero => intro i acc h1 h2; omega
  | succ f ih =>
    intro i acc h1 h2 h3
    rw [show 2 * (f + 1) = 2 * f + 1 + 1 by omega]
    simp only [Pf.mask_Names.l0, namesF]
    by_cases hi : i < l.length
    · have hL : (((l.map tT).length : Nat) : Int) = (l.length : Int) := by rw [List.length_map]
      have e1 : (tT (l[i]'hi)).f1 = textT l i := (textT_lt hi).symm
      have hj : ∀ b, labT l i = !b → ∃ r, Pf.mask_Names.j1 (2 * f + 1) (l.map tT) (i : Int) acc b = some r ∧ namesO acc (if labT l i = true then (if sigT l (i + 1) cDot = true then (match namesF l f (i + 2) with | some (x, n) => some (textT l i :: x, n) | none => none) else some ([textT l i], i + 1)) else none) r := by
        intro b hb
        simp only [Pf.mask_Names.j1]
        cases b with
        | true =>
          rw [if_pos rfl, hb]
          exact ⟨_, rfl, rfl, rfl⟩
        | false =>
          rw [if_neg (by simp), if_pos (by omega), if_pos (by omega), if_pos (by omega), Option.bind_some, rd_tok l i hi, e1, show ((i : Int) + 1) = ((i + 1 : Nat) : Int) from rfl, w64 (by omega), hb]
          rw [if_pos (show (!false) = true from rfl)]
          by_cases hi2 : i + 1 < l.length
          · rw [if_neg (by omega), if_pos (by omega), if_pos (by omega), rd_tok l (i + 1) hi2]
            by_cases e4 : (l[i + 1]'hi2).kind = 4
            · rw [if_pos (show (tT (l[i + 1]'hi2)).f0 = 4 from e4)]
              by_cases e5 : eqS (l[i + 1]'hi2).text cDot = true
              · rw [if_pos (show (tT (l[i + 1]'hi2)).f1.toList = [46] from (eqS_listP (l[i + 1]'hi2).text cDot).2 e5 |>.trans cDot_list), show (((i + 1 : Nat) : Int) + 1) = ((i + 2 : Nat) : Int) by omega, w64 (by omega)]
                obtain ⟨r, hr, ho⟩ := ih (i + 2) (acc ++ [textT l i]) (by omega) (by omega) (by rw [List.length_append, List.length_singleton]; omega)
                refine ⟨r, hr, ?_⟩
                rw [if_pos (show sigT l (i + 1) cDot = true by rw [sigT_lt hi2, e5, decide_eq_true e4]; rfl)]
                cases hn : namesF l f (i + 2) with
                | none => rw [hn] at ho; exact ho
                | some x =>
                  obtain ⟨x, n⟩ := x
                  rw [hn] at ho
                  show r = _
                  rw [show r = (acc ++ [textT l i] ++ x, (n : Int), true) from ho, List.append_assoc]; rfl
              · rw [if_neg (show ¬ (tT (l[i + 1]'hi2)).f1.toList = [46] from fun h => e5 ((eqS_listP (l[i + 1]'hi2).text cDot).1 (h.trans cDot_list.symm))), if_neg (show ¬ sigT l (i + 1) cDot = true by rw [sigT_lt hi2]; simp [e5])]
                exact ⟨_, rfl, rfl⟩
            · rw [if_neg (show ¬ (tT (l[i + 1]'hi2)).f0 = 4 from e4), if_neg (show ¬ sigT l (i + 1) cDot = true by rw [sigT_lt hi2]; simp [e4])]
              exact ⟨_, rfl, rfl⟩
          · rw [if_pos (by omega), if_neg (show ¬ sigT l (i + 1) cDot = true by rw [sigT_ge (by omega)]; simp)]
            exact ⟨_, rfl, rfl⟩
      rw [if_neg (by omega), if_pos (by omega), if_pos (by omega), rd_tok l i hi]
      by_cases e : (l[i]'hi).kind = 1
      · rw [if_pos (show (tT (l[i]'hi)).f0 = 1 from e)]
        exact hj false (by rw [labT_lt hi, decide_eq_true e]; rfl)
      · rw [if_neg (show ¬ (tT (l[i]'hi)).f0 = 1 from e)]
        refine hj _ ?_
        rw [labT_lt hi, decide_eq_false e, Bool.false_or]
        show decide ((l[i]'hi).kind = 3) = !((l[i]'hi).kind != 3)
        by_cases e3 : (l[i]'hi).kind = 3 <;> simp [e3]
    · rw [if_pos (by rw [List.length_map]; omega), labT_ge (by omega)]
      simp only [Pf.mask_Names.j1]
      exact ⟨_, rfl, rfl, rfl⟩
theorem names_is (l : List Tok) (hl : l.length ≤ 5000) (i : Nat) (h2 : i ≤ l.length) (h3 : 1 ≤ l.length) : ∃ r, Pf.mask_Names.f (2 * (l.length + 1)) (l.map tT) (i : Int) = some r ∧ namesO [] (namesT l i) r :=
  names_go l hl (l.length + 1) i [] (by omega) (by omega) (Nat.zero_le _)

end Go.Proofs.YtejpjclbeogajaaDoor

/-
  A policy's text: its ways; the document's Way and Policy say the same.
-/
namespace Go.Proofs.YtejpjclbeogajaaDoor
open Go.RowKit
open Go.Proofs.YtejpjclbeogajaaDoorP
open Go.Proofs.YtejpjclbeogajaaDoorW.PrintWords (Kd)
set_option linter.unusedVariables false
set_option linter.unusedSimpArgs false

/-! ### the document's Find, Way -/
theorem rd_rec (l0 : List SRec) (rec : Nat) : Pf.rd_T82 l0 (rec : Int) = recAt l0 rec := by unfold Pf.rd_T82 recAt; rw [Int.toNat_natCast]
theorem rd_fld (xs : List SFld) (i : Nat) : Pf.rd_T79 xs (i : Int) = fldAt xs i := by unfold Pf.rd_T79 fldAt; rw [Int.toNat_natCast]
theorem refFind_go (l0 : List SRec) (l1 : List SCho) (root : Int) (rec : Nat) (nm : ByteArray) (hrec : rec < l0.length) (hb : (recAt l0 rec).f1.length ≤ 5000) : ∀ (d i k : Nat), i + d = (recAt l0 rec).f1.length → d + 1 ≤ k → (∀ j, j < i → eqS (fldAt (recAt l0 rec).f1 j).f0 nm = false) →
    Pf.transomref16_Find.l0 k (rec : Int) nm (i : Int) l0 l1 root = some (ixZ (findI (recAt l0 rec).f1 nm)) := by
  intro d
  induction d with
  | zero =>
    intro i k hi hk hno
    obtain ⟨k, rfl⟩ : ∃ m, k = m + 1 := ⟨k - 1, by omega⟩
    simp only [Pf.transomref16_Find.l0]
    rw [if_pos (by omega), if_pos (by omega), rd_rec, if_neg (by omega)]
    have : findI (recAt l0 rec).f1 nm = none := firstIx_none.2 fun j hj => hno j (by omega)
    rw [this]; rfl
  | succ d ih =>
    intro i k hi hk hno
    obtain ⟨k, rfl⟩ : ∃ m, k = m + 1 := ⟨k - 1, by omega⟩
    simp only [Pf.transomref16_Find.l0]
    rw [if_pos (by omega), if_pos (by omega), rd_rec, if_pos (by omega), if_pos (by omega), rd_fld]
    cases he : eqS (fldAt (recAt l0 rec).f1 i).f0 nm with
    | true =>
      rw [if_pos ((eqS_listP _ _).2 he)]
      have : findI (recAt l0 rec).f1 nm = some i := firstIx_some (by omega) he hno
      rw [this]; rfl
    | false =>
      rw [if_neg (fun h => by rw [(eqS_listP _ _).1 h] at he; cases he), show ((i : Int) + 1) = ((i + 1 : Nat) : Int) from rfl, w64 (by omega)]
      exact ih (i + 1) k (by omega) (by omega) fun j hj => by
        by_cases e : j = i
        · rw [e]; exact he
        · exact hno j (by omega)
theorem refFind_is (l0 : List SRec) (l1 : List SCho) (root : Int) (rec : Nat) (nm : ByteArray) (hrec : rec < l0.length) (hb : (recAt l0 rec).f1.length ≤ 5000) (k : Nat) (hk : (recAt l0 rec).f1.length + 1 ≤ k) :
    Pf.transomref16_Find.f k l0 l1 root (rec : Int) nm = some (ixZ (findI (recAt l0 rec).f1 nm)) := refFind_go l0 l1 root rec nm hrec hb _ 0 k (by omega) hk (fun j hj => absurd hj (Nat.not_lt_zero j))

/-- fields of a schema: not too many -/
def SchB (l0 : List SRec) : Prop := ∀ rec, (recAt l0 rec).f1.length ≤ 5000
def wayO (acc : List Int) (o : Option (List Int)) : List Int × Bool := match o with | some r => (acc ++ r, true) | none => ([], false)
theorem refWay_go (l0 : List SRec) (l1 : List SCho) (root : Int) (hw : SchW l0) (hb : SchB l0) (names : List ByteArray) (hn : names.length ≤ 5000) : ∀ (rest pre : List ByteArray) (acc : List Int) (rec k : Nat), names = pre ++ rest → acc.length = pre.length → (rest ≠ [] → rec < l0.length) → 2 * rest.length + 5002 ≤ k →
    Pf.transomref16_Way.l0 k (rec : Int) names acc (pre.length : Int) l0 l1 root = some (if rest.length = 0 then (acc, decide (0 < acc.length)) else wayO acc (wayI l0 rest rec)) := by
  intro rest
  induction rest with
  | nil =>
    intro pre acc rec k hp ha _ hk
    obtain ⟨k, rfl⟩ : ∃ m, k = m + 1 := ⟨k - 1, by omega⟩
    simp only [Pf.transomref16_Way.l0]
    have hl : names.length = pre.length := by rw [hp]; simp
    rw [if_neg (by omega), if_pos (show ([] : List ByteArray).length = 0 from rfl)]
    have e : decide ((acc.length : Int) > 0) = decide (0 < acc.length) := decide_eq_decide.2 (by omega)
    rw [e]
  | cons nm ns ih =>
    intro pre acc rec k hp ha hr hk
    have hrec := hr (by simp)
    simp only [List.length_cons] at hk
    obtain ⟨k, rfl⟩ : ∃ m, k = m + 1 + 1 := ⟨k - 2, by omega⟩
    have hl : names.length = pre.length + (ns.length + 1) := by rw [hp]; simp
    have hrd : Go.Proofs.YtejpjclbeogajaaDoorW.PrintWords.rdOf ByteArray.empty names (pre.length : Int) = nm := by
      unfold Go.Proofs.YtejpjclbeogajaaDoorW.PrintWords.rdOf
      rw [Int.toNat_natCast, hp, List.getD_eq_getElem?_getD]; simp
    have hbr := hb rec
    rw [if_neg (by simp)]
    simp only [Pf.transomref16_Way.l0, wayI]
    rw [if_pos (by omega), if_pos (by omega), hrd, refFind_is l0 l1 root rec nm hrec hbr _ (by omega), Option.bind_some]
    cases hf : findI (recAt l0 rec).f1 nm with
    | none =>
      rw [show ixZ none = -1 from rfl, if_pos (by omega)]; rfl
    | some i =>
      have hi : i < (recAt l0 rec).f1.length := (firstIx_spec hf).1
      show _ = some (wayO acc (if ns.length = 0 then some [(i : Int)] else if (fldAt (recAt l0 rec).f1 i).f1.f0 = 13 then (wayI l0 ns (fldAt (recAt l0 rec).f1 i).f1.f1.toNat).map (fun r => (i : Int) :: r) else none))
      rw [show ixZ (some i) = (i : Int) from rfl, if_neg (by omega), if_pos (by omega), Option.bind_some, if_pos (by omega), if_pos (by omega), if_pos (by omega), rd_rec, rd_fld, if_pos (by omega), show ((pre.length : Int) + 1) = ((pre.length + 1 : Nat) : Int) from rfl, w64 (by omega)]
      have hpn : names = (pre ++ [nm]) ++ ns := by rw [hp]; simp
      have hpl : ((pre.length + 1 : Nat) : Int) = ((pre ++ [nm]).length : Int) := by simp
      by_cases hns : ns.length = 0
      · obtain rfl : ns = [] := List.length_eq_zero_iff.1 hns
        rw [if_neg (by simp only [List.length_nil] at hl; omega), if_pos (show ([] : List ByteArray).length = 0 from rfl)]
        simp only [Pf.transomref16_Way.j1]
        rw [if_neg (by simp), show ((pre.length : Int) + 1) = ((pre.length + 1 : Nat) : Int) from rfl, w64 (by omega), hpl]
        have hend : ∀ rc : Int, Pf.transomref16_Way.l0 k rc names (acc ++ [(i : Int)]) ((pre ++ [nm]).length : Int) l0 l1 root = some (acc ++ [(i : Int)], true) := by
          intro rc
          obtain ⟨k, rfl⟩ : ∃ m, k = m + 1 := ⟨k - 1, by omega⟩
          simp only [Pf.transomref16_Way.l0]
          have hl2 : names.length = (pre ++ [nm]).length := by rw [hpn]; simp
          rw [if_neg (by omega)]
          have e : decide (((acc ++ [(i : Int)]).length : Int) > 0) = true := decide_eq_true (by rw [List.length_append, List.length_singleton]; omega)
          rw [e]
        split
        · rw [hend (fldAt (recAt l0 rec).f1 i).f1.f1]; rfl
        · rw [hend (rec : Int)]; rfl
      · rw [if_pos (by omega), if_neg hns]
        simp only [Pf.transomref16_Way.j1]
        by_cases h13 : (fldAt (recAt l0 rec).f1 i).f1.f0 = 13
        · have hkb : ((fldAt (recAt l0 rec).f1 i).f1.f0 != 13) = false := by rw [h13]; rfl
          obtain ⟨hr0, hr1⟩ := hw rec hrec i hi h13
          obtain ⟨rf, hrf⟩ := Int.eq_ofNat_of_zero_le hr0
          rw [hkb, if_neg (by simp), if_pos h13, if_pos h13, hrf, show ((pre.length : Int) + 1) = ((pre.length + 1 : Nat) : Int) from rfl, w64 (by omega), hpl, Int.toNat_natCast]
          rw [ih (pre ++ [nm]) (acc ++ [(i : Int)]) rf k hpn (by simp [ha]) (fun _ => by omega) (by omega), if_neg hns]
          cases wayI l0 ns rf with
          | none => rfl
          | some r => simp [wayO]
        · have hkb : ((fldAt (recAt l0 rec).f1 i).f1.f0 != 13) = true := by rw [bne_iff_ne]; exact h13
          rw [hkb, if_pos rfl, if_neg h13]; rfl
theorem refWay_is (l0 : List SRec) (l1 : List SCho) (root : Int) (hw : SchW l0) (hb : SchB l0) (names : List ByteArray) (hn : names.length ≤ 5000) (rec k : Nat) (hrec : rec < l0.length) (hk : 2 * names.length + 5002 ≤ k) :
    Pf.transomref16_Way.f k l0 l1 root (rec : Int) names = some (if names.length = 0 then ([], false) else wayO [] (wayI l0 names rec)) := refWay_go l0 l1 root hw hb names hn names [] [] rec k rfl rfl (fun _ => hrec) hk

/-! ### a policy's lines -/
def cHide : ByteArray := ⟨#[104, 105, 100, 101]⟩
theorem cSem_list : cSem.toList = [59] := by rw [Go.ByteArray.toList_eq]; rfl
theorem cHide_list : cHide.toList = [104, 105, 100, 101] := by rw [Go.ByteArray.toList_eq]; rfl
def kindT (l : List Tok) (i : Nat) : Int := ((l[i]?).getD tok0).kind
/-- the ways that lines hide, from a place on -/
def polF (l0 : List SRec) (root : Nat) (l : List Tok) : Nat → Nat → List (List Int) → Option (List (List Int))
  | 0, _, _ => none
  | f + 1, i, acc => if kindT l i = 0 then some acc
    else if kindT l i = 1 ∧ eqS (textT l i) cHide = true ∧ acc.length < 16 then (match namesT l (i + 1) with
      | none => none
      | some (nm, n) => if sigT l n cSem = true then (match wayI l0 nm root with | none => none | some w => polF l0 root l f (n + 1) (acc ++ [w])) else none)
    else none
def polI (l0 : List SRec) (root : Nat) (text : ByteArray) : Option (List (List Int)) := match toks text ⟨#[46, 59]⟩ with
  | .error _ => none
  | .ok l => if 1024 < text.size then none else polF l0 root l (l.length + 1) 0 []
theorem namesF_bd {l : List Tok} : ∀ (f i : Nat) {x : List ByteArray} {n : Nat}, namesF l f i = some (x, n) → i < n ∧ n ≤ l.length ∧ x.length ≤ n - i ∧ 0 < x.length := by
  intro f
  induction f with
  | zero => intro i x n h; cases h
  | succ f ih =>
    intro i x n h
    simp only [namesF] at h
    split at h
    · rename_i hl
      have hi := labT_bd hl
      split at h
      · split at h
        · rename_i x' n' hn
          cases h
          have := ih (i + 2) hn
          simp only [List.length_cons]
          omega
        · cases h
      · cases h
        simp only [List.length_cons, List.length_nil]
        omega
    · cases h
/-- tokens end, and but for the last one none is the end -/
structure TokW (l : List Tok) : Prop where
  pos : 0 < l.length
  last : kindT l (l.length - 1) = 0
  inner : ∀ i, i + 1 < l.length → kindT l i ≠ 0
  most : l.length ≤ 2048
theorem sigT_kind {l : List Tok} {i : Nat} {c : ByteArray} (h : sigT l i c = true) : kindT l i = 4 := by
  have hi := sigT_bd h
  rw [sigT_lt hi, Bool.and_eq_true, decide_eq_true_eq] at h
  unfold kindT
  rw [List.getElem?_eq_getElem hi]; exact h.1
theorem TokW.before {l : List Tok} (h : TokW l) {i : Nat} (hi : i < l.length) (hk : kindT l i ≠ 0) : i + 1 < l.length := by
  by_cases e : i + 1 < l.length
  · exact e
  · have : i = l.length - 1 := by omega
    rw [this, h.last] at hk; exact absurd rfl hk
theorem kindT_lt {l : List Tok} {i : Nat} (h : i < l.length) : kindT l i = (l[i]'h).kind := by unfold kindT; rw [List.getElem?_eq_getElem h]; rfl

def polO (o : Option (List (List Int))) : List (List Int) × Int := match o with | some W => (W, 0) | none => ([], 33)
theorem refPol_go (l0 : List SRec) (l1 : List SCho) (root : Nat) (hw : SchW l0) (hb : SchB l0) (hroot : root < l0.length) (l : List Tok) (hl : TokW l) : ∀ (f i : Nat) (acc : List (List Int)) (k : Nat), i < l.length → acc.length ≤ i → l.length + 1 ≤ f + i → 3 * f + 20000 ≤ k →
    Pf.transomref16_Policy.l0 k (l.map tT) acc (i : Int) l0 l1 (root : Int) = some (polO (polF l0 root l f i acc)) := by
  intro f
  have hm := hl.most
  induction f with
  | zero => intro i acc k h1 h2 h3; omega
  | succ f ih =>
    intro i acc k h1 h2 h3 h4
    obtain ⟨k, rfl⟩ : ∃ m, k = m + 1 + 1 + 1 := ⟨k - 3, by omega⟩
    simp only [Pf.transomref16_Policy.l0, polF]
    rw [if_pos (by omega), if_pos (by rw [List.length_map]; omega), rd_tok l i h1]
    have ek : (tT (l[i]'h1)).f0 = kindT l i := (kindT_lt h1).symm
    have et : (tT (l[i]'h1)).f1 = textT l i := (textT_lt h1).symm
    rw [ek, et]
    by_cases e0 : kindT l i = 0
    · rw [if_pos e0, if_pos e0]; rfl
    · rw [if_neg e0, if_neg e0]
      have hi1 := hl.before h1 e0
      have hno : Pf.transomref16_Policy.j2 (k + 1 + 1) (l.map tT) acc (i : Int) true l0 l1 (root : Int) = some (polO none) := by simp only [Pf.transomref16_Policy.j2]; rw [if_pos trivial]; rfl
      by_cases e1 : kindT l i = 1
      · rw [if_pos e1]
        by_cases e2 : eqS (textT l i) cHide = true
        · rw [if_pos (((eqS_listP _ _).2 e2).trans cHide_list)]
          by_cases e3 : acc.length < 16
          · have ed : decide ((acc.length : Int) ≥ 16) = false := decide_eq_false (by omega)
            rw [ed, if_pos ⟨e1, e2, e3⟩]
            simp only [Pf.transomref16_Policy.j2]
            rw [if_neg (by simp), show ((i : Int) + 1) = ((i + 1 : Nat) : Int) from rfl, w64 (by omega)]
            obtain ⟨r, hr, ho⟩ := refNames_is l (by omega) (i + 1) (by omega) (by omega)
            have hr2 : Pf.transomref16_Names.f (k + 1) (l.map tT) ((i + 1 : Nat) : Int) = some r := Go.Proofs.YtejpjclbeogajaaDoorW.PrintWords.at_rounds (g := fun k => Pf.transomref16_Names.f k (l.map tT) ((i + 1 : Nat) : Int)) (fun k => Pf.transomref16_Names.mono _ _ k) (by omega) hr
            rw [hr2, Option.bind_some]
            have hno3 : ∀ a b, Pf.transomref16_Policy.j3 (k + 1) (l.map tT) acc a b true l0 l1 (root : Int) = some (polO none) := by intro a b; simp only [Pf.transomref16_Policy.j3]; rw [if_pos trivial]; rfl
            cases hn : namesT l (i + 1) with
            | none =>
              rw [hn] at ho
              rw [if_neg (by rw [ho.2]; simp), hno3]
            | some x =>
              obtain ⟨nm, n⟩ := x
              rw [hn] at ho
              obtain rfl : r = ([] ++ nm, (n : Int), true) := ho
              have hbd := namesF_bd _ _ hn
              rw [if_pos rfl, isSign_is, Option.bind_some]
              simp only
              cases hs : sigT l n ⟨#[59]⟩ with
              | false =>
                rw [if_neg (by rw [show sigT l n cSem = false from hs]; simp)]
                exact hno3 _ _
              | true =>
                have hsn := hl.before (sigT_bd hs) (by rw [sigT_kind hs]; decide)
                rw [if_pos (show sigT l n cSem = true from hs)]
                simp only [Pf.transomref16_Policy.j3]
                rw [if_neg (by simp), List.nil_append, refWay_is l0 l1 _ hw hb nm (by omega) root k hroot (by omega), Option.bind_some, if_neg (show ¬ nm.length = 0 by omega)]
                cases hwy : wayI l0 nm root with
                | none => rw [if_neg (by simp [wayO])]; rfl
                | some w =>
                  rw [if_pos (by rfl), if_pos (by omega), show ((n : Int) + 1) = ((n + 1 : Nat) : Int) from rfl, w64 (by omega)]
                  rw [show (wayO [] (some w)).1 = w from List.nil_append w]
                  exact ih (n + 1) (acc ++ [w]) k hsn (by rw [List.length_append, List.length_singleton]; omega) (by omega) (by omega)
          · have ed : decide ((acc.length : Int) ≥ 16) = true := decide_eq_true (by omega)
            rw [ed, if_neg (fun h => e3 h.2.2)]
            exact hno
        · rw [if_neg (fun h => e2 ((eqS_listP _ _).1 (h.trans cHide_list.symm))), if_neg (fun h => e2 h.2.1)]
          exact hno
      · rw [if_neg e1, if_neg (fun h => e1 h.1)]
        exact hno

theorem labT_kind {l : List Tok} {i : Nat} (h : labT l i = true) : kindT l i ≠ 0 := by
  have hi := labT_bd h
  rw [labT_lt hi, Bool.or_eq_true, decide_eq_true_eq, decide_eq_true_eq] at h
  rw [kindT_lt hi]
  omega
theorem namesF_lt {l : List Tok} (hl : TokW l) : ∀ (f i : Nat) {x : List ByteArray} {n : Nat}, namesF l f i = some (x, n) → n < l.length := by
  intro f
  induction f with
  | zero => intro i x n h; cases h
  | succ f ih =>
    intro i x n h
    simp only [namesF] at h
    split at h
    · rename_i hlb
      split at h
      · split at h
        · rename_i x' n' hn
          cases h
          exact ih (i + 2) hn
        · cases h
      · cases h
        exact hl.before (labT_bd hlb) (labT_kind hlb)
    · cases h

/-! ### tokens of a text -/
theorem toksL_inner (s sg : ByteArray) : ∀ (n i : Nat) (l : List Tok), toksF s sg n i = .ok l → l.length ≤ n ∧ ∀ (k : Nat) (t : Tok), k + 1 < l.length → l[k]? = some t → t.kind ≠ 0 := by
  intro n
  induction n with
  | zero => intro i l h; simp [toksF] at h
  | succ n ih =>
    intro i l h
    simp only [toksF] at h
    split at h
    · cases h
    · split at h
      · cases h
        exact ⟨by simp, fun k t hk => by simp at hk⟩
      · rename_i hk0
        split at h
        · cases h
        · rename_i l' hl'
          cases h
          have := ih _ _ hl'
          refine ⟨by simp; omega, fun k t hk ht => ?_⟩
          cases k with
          | zero => obtain rfl := Option.some.inj ht; exact hk0
          | succ k => exact this.2 k t (by simpa using hk) (by simpa using ht)
theorem toks_W {s sg : ByteArray} {l : List Tok} (h : toks s sg = .ok l) : TokW l := by
  have he := toks_ended h
  have h2 := h
  unfold toks at h2
  split at h2
  · cases h2
  · have hi := toksL_inner s sg _ 0 l h2
    have hlast := he.2 (l.length - 1) (by omega)
    rw [hereT, Nat.min_self] at hlast
    refine ⟨he.1, hlast, fun i hi1 => ?_, hi.1⟩
    rw [kindT_lt (by omega)]
    exact hi.2 i _ hi1 (List.getElem?_eq_getElem (by omega))

theorem toksL_errF (s sg : ByteArray) : ∀ (n i : Nat) (p : Nat), toksF s sg n i ≠ .error (0, p) := by
  intro n
  induction n with
  | zero => intro i p h; simp [toksF] at h
  | succ n ih =>
    intro i p h
    simp only [toksF] at h
    split at h
    · cases h
    · split at h
      · cases h
      · split at h
        · rename_i x hx
          cases h
          exact ih _ _ hx
        · cases h
theorem toksL_err (s sg : ByteArray) (p : Nat) (h : toks s sg = .error (0, p)) : False := by
  unfold toks at h
  split at h
  · cases h
  · exact toksL_errF s sg _ 0 p h

theorem refPolicy_is (l0 : List SRec) (l1 : List SCho) (root : Nat) (hw : SchW l0) (hb : SchB l0) (hroot : root < l0.length) (text : ByteArray) (ht : text.size ≤ 140737488351232) : ∃ k, Pf.transomref16_Policy.f k l0 l1 (root : Int) text = some (polO (polI l0 root text)) := by
  have htk : Pf.transomref03_Tokens.f text ⟨#[46, 59]⟩ = some (Pf.tokOut (toks text ⟨#[46, 59]⟩)) := by
    unfold Pf.transomref03_Tokens.f
    rw [if_pos ⟨ht, by decide⟩]
  refine ⟨30001, ?_⟩
  unfold Pf.transomref16_Policy.f polI
  rw [htk, Option.bind_some]
  cases hk : toks text ⟨#[46, 59]⟩ with
  | error x =>
    obtain ⟨c, p⟩ := x
    have hc : c ≠ 0 := by
      intro e
      subst e
      exact toksL_err text ⟨#[46, 59]⟩ p hk
    rw [if_neg (show ¬ (Pf.tokOut (.error (c, p))).2.1 = 0 from hc)]
    simp only [Pf.transomref16_Policy.j0]
    rw [if_pos trivial]; rfl
  | ok l =>
    have hl := toks_W hk
    have hm := hl.most
    have hp := hl.pos
    rw [if_pos (show (Pf.tokOut (.ok l)).2.1 = 0 from rfl)]
    simp only [Pf.transomref16_Policy.j0]
    by_cases hz : 1024 < text.size
    · rw [decide_eq_true (show (text.size : Int) > 1024 by omega), if_pos rfl, if_pos hz]; rfl
    · rw [decide_eq_false (show ¬ (text.size : Int) > 1024 by omega), if_neg (by simp), if_neg hz]
      exact refPol_go l0 l1 root hw hb hroot l hl (l.length + 1) 0 [] 30000 (by omega) (Nat.zero_le _) (by omega) (by omega)

end Go.Proofs.YtejpjclbeogajaaDoor
