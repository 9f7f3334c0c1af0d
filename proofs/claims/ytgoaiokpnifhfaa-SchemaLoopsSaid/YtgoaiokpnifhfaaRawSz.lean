/-
  How long the names and defaults of a schema as it is written may be.
-/
import Derived.Test.YtgoaiokpnifhfaaRawRow
namespace Go.Proofs.Ytgoaiokpnifhfaa
open Go.RowKit
set_option linter.unusedVariables false
set_option linter.unusedSimpArgs false

theorem ext_size (s : ByteArray) (i j : Nat) : (s.extract i j).size ≤ s.size := by rw [ByteArray.size_extract]; omega
theorem oneB_size {s sg : ByteArray} {i : Nat} {k : Int} {t : ByteArray} {e : Nat} (h : oneB s sg i = some (k, t, e)) : t.size ≤ s.size := by
  unfold oneB at h
  split at h
  · cases h; exact Nat.zero_le _
  split at h
  · cases h; exact ext_size s _ _
  split at h
  · split at h
    · cases h; exact ext_size s _ _
    · cases h
  split at h
  · split at h
    · cases h; exact ext_size s _ _
    · cases h
  split at h
  · cases h; exact ext_size s _ _
  · cases h
theorem toksF_size {s sg : ByteArray} : ∀ (n i : Nat) (l : List Tok), toksF s sg n i = .ok l → ∀ t ∈ l, t.text.size ≤ s.size := by
  intro n
  induction n with
  | zero => intro i l h; simp only [toksF] at h; cases h
  | succ n ih =>
    intro i l h
    simp only [toksF] at h
    cases ho : oneB s sg (behind s i) with
    | none => rw [ho] at h; cases h
    | some x =>
      obtain ⟨k, t, e⟩ := x
      rw [ho] at h
      simp only at h
      split at h
      · cases h
        intro t' ht'
        obtain rfl := List.mem_singleton.1 ht'
        exact oneB_size ho
      · cases hr : toksF s sg n e with
        | error x => rw [hr] at h; cases h
        | ok l' =>
          rw [hr] at h
          cases h
          intro t' ht'
          rcases List.mem_cons.1 ht' with rfl | ht'
          · exact oneB_size ho
          · exact ih e l' hr t' ht'
theorem toks_size {s sg : ByteArray} {l : List Tok} (h : toks s sg = .ok l) : ∀ t ∈ l, t.text.size ≤ 8192 := by
  unfold toks at h
  split at h
  · cases h
  · intro t ht
    have := toksF_size _ _ _ h t ht
    omega
theorem here_size {l : List Tok} (h : ∀ t ∈ l, t.text.size ≤ 8192) (a : Nat) : (hereT l a).text.size ≤ 8192 := by
  unfold hereT
  cases e : l[min a (l.length - 1)]? with
  | none => decide
  | some t => exact h t (List.mem_of_getElem? e)
theorem nameV_size (l : List Tok) (q : Bool) (σ : PS) : (nameV l q σ).text.size ≤ 40 := by
  unfold nameV
  split
  · split
    · decide
    · split
      · decide
      · rename_i hl
        simp only [nameLong, Bool.or_eq_true, decide_eq_true_eq, not_or] at hl
        omega
  · decide

structure FldSz (f : RField) : Prop where
  n : f.name.size ≤ 40
  t : f.ty.name.size ≤ 40
  d : f.df.text.size ≤ 8192
structure RawSz (r : RawD) : Prop where
  s : ∀ x ∈ r.structs, x.name.size ≤ 40 ∧ ∀ f ∈ x.fields, FldSz f
  e : ∀ x ∈ r.enums, x.name.size ≤ 40 ∧ ∀ t ∈ x.names, t.text.size ≤ 40
  o : ∀ t ∈ r.roots, t.text.size ≤ 40
theorem serLoop_all {α : Type} {l : List Tok} {one : PS → PS} {val : PS → α} {P : α → Prop} (hP : ∀ σ, P (val σ)) : ∀ (f : Nat) (σ : PS) (acc : List α), (∀ x ∈ acc, P x) → ∀ x ∈ (serLoop l one val f σ acc).1, P x := by
  intro f
  induction f with
  | zero => intro σ acc h; exact h
  | succ f ih =>
    intro σ acc h
    simp only [serLoop]
    split
    · split
      · exact h
      · refine ih _ _ (fun x hx => ?_)
        rcases List.mem_append.1 hx with hx | hx
        · exact h x hx
        · obtain rfl := List.mem_singleton.1 hx
          exact hP σ
    · exact h
theorem serR_all {α : Type} {l : List Tok} {one : PS → PS} {val : PS → α} {P : α → Prop} (hP : ∀ σ, P (val σ)) (σ : PS) : ∀ x ∈ (serR l one val σ).1, P x := serLoop_all hP _ _ _ (fun x hx => absurd hx (by simp))
theorem fieldV_size {l : List Tok} (h : ∀ t ∈ l, t.text.size ≤ 8192) (σ : PS) : FldSz (fieldV l σ) := by
  refine ⟨nameV_size _ _ _, nameV_size _ _ _, ?_⟩
  show (defV l σ).text.size ≤ 8192
  unfold defV
  split
  · exact here_size h _
  · decide
theorem decl_size {l : List Tok} (h : ∀ t ∈ l, t.text.size ≤ 8192) {σ : PS} {r : RawD} (hr : RawSz r) : RawSz (declV l σ r) := by
  unfold declV
  split
  · refine ⟨fun x hx => ?_, hr.e, hr.o⟩
    rcases List.mem_append.1 hx with hx | hx
    · exact hr.s x hx
    · obtain rfl := List.mem_singleton.1 hx
      exact ⟨nameV_size _ _ _, serR_all (fieldV_size h) _⟩
  · split
    · refine ⟨hr.s, fun x hx => ?_, hr.o⟩
      rcases List.mem_append.1 hx with hx | hx
      · exact hr.e x hx
      · obtain rfl := List.mem_singleton.1 hx
        exact ⟨nameV_size _ _ _, serR_all (fun σ => nameV_size l false σ) _⟩
    · split
      · refine ⟨hr.s, hr.e, fun x hx => ?_⟩
        rcases List.mem_append.1 hx with hx | hx
        · exact hr.o x hx
        · obtain rfl := List.mem_singleton.1 hx
          exact nameV_size _ _ _
      · exact hr
theorem all_size {l : List Tok} (h : ∀ t ∈ l, t.text.size ≤ 8192) : ∀ (f : Nat) (σ : PS) (r : RawD), RawSz r → RawSz (allLoop l f σ r).1 := by
  intro f
  induction f with
  | zero => intro σ r hr; exact hr
  | succ f ih =>
    intro σ r hr
    unfold allLoop
    split
    · exact ih _ _ (decl_size h hr)
    · exact hr
theorem parse_sz {s : ByteArray} {r : RawD} (h : parseI s = .ok r) : RawSz r := by
  unfold parseI at h
  cases ht : toks s sgI with
  | error x => rw [ht] at h; cases h
  | ok l =>
    rw [ht] at h
    simp only [rawOf] at h
    by_cases e : (allR l).2.c = 0
    · rw [if_pos e] at h
      cases h
      exact all_size (toks_size ht) _ _ _ ⟨fun x hx => absurd hx (by simp), fun x hx => absurd hx (by simp), fun x hx => absurd hx (by simp)⟩
    · rw [if_neg e] at h; cases h

end Go.Proofs.Ytgoaiokpnifhfaa
