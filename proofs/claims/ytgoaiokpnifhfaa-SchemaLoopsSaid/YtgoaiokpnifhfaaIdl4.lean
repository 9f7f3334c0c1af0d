/-
  Layer 4: things between braces.
-/
import Derived.Test.YtgoaiokpnifhfaaIdl3
namespace Go.Proofs.Ytgoaiokpnifhfaa
open Go.RowKit
set_option linter.unusedVariables false
set_option linter.unusedSimpArgs false

def parLeft (w : World) (P : Nat) (l : List Tok) : Nat :=
  if intOf ((w.cell? ⟨P, 2, none⟩).getD undef) = 0 then l.length + 1 - (intOf ((w.cell? ⟨P, 1, none⟩).getD undef)).toNat else 0
theorem parLeft_of {w : World} {P g cap : Nat} {l : List Tok} {σ : PS} (h : ParAt w P g cap l σ) : parLeft w P l = left l σ := by
  have h1 : w.cell? ⟨P, 1, none⟩ = some (.int .i64 (σ.a : Int)) := by rw [blk_cell h.blk]; rfl
  have h2 : w.cell? ⟨P, 2, none⟩ = some (.int .i64 σ.c) := by rw [blk_cell h.blk]; rfl
  simp [parLeft, left, h1, h2, intOf]

/-- what the things between braces are read by -/
structure SerOf {α : Type} (fid : Nat) (caps : Array Value) (P g cap : Nat) (l : List Tok) (one : PS → PS) (val : PS → α) (I : PS → List α → World → Prop) : Prop where
  ent : Enters fid
  move : ∀ σ, Fine l σ → Moves l σ (one σ)
  par : ∀ σ acc w, I σ acc w → ParAt w P g cap l σ
  step : ∀ σ acc w τ w', I σ acc w → ParPost w P g cap l τ w' → I τ acc w'
  calls : ∀ σ acc w, σ.c = 0 → acc.length ≤ l.length → I σ acc w → Calls Try.prog fid caps w fun e w' => e = .returned (.tuple #[]) ∧ I (one σ) (acc ++ [val σ]) w'

set_option maxHeartbeats 2000000 in
set_option maxRecDepth 100000 in
theorem series_calls {α : Type} (fid : Nat) (caps : Array Value) (P g cap : Nat) (l : List Tok) (one : PS → PS) (val : PS → α) (I : PS → List α → World → Prop) (S : SerOf fid caps P g cap l one val I) (σ : PS) (w : World) (h : I σ [] w) :
    Calls Try.prog 44 #[.pointer (some ⟨P, 0, none⟩), .func (.func fid) #[] caps] w fun e w' => e = .returned (.tuple #[]) ∧ I (serR l one val σ).2 (serR l one val σ).1 w' := by
  have H := Lib.hid h
  have HS := Lib.hid S
  have hent := fun (W : World) => S.ent caps W
  have hz : serR l one val σ = serLoop l one val (l.length + 1) (wantS l cOpen σ) [] := rfl
  have HZ := Lib.hid hz
  have hw := want_calls P g cap l σ cOpen w (S.par _ _ _ h)
  clear h S hz
  go_enter Try.func44, Try.ntmps44
  go_wp2_with fail
  refine hw.mono ?_
  rintro e w1 ⟨rfl, hp1⟩
  have hI1 := HS.out.step _ _ _ _ _ H.out hp1
  have HI1 := Lib.hid hI1
  clear hI1 hp1 hw
  go_wp2_with fail
  go_loopw [6] (fun _ wr => ∃ (f : Nat) (τ : PS) (acc : List α), left l τ ≤ f ∧ acc.length + left l τ ≤ l.length + 1 ∧ Hid (serR l one val σ = serLoop l one val f τ acc) ∧ Hid (I τ acc wr)) (fun _ wr => parLeft wr P l)
  case atStart => exact ⟨l.length + 1, _, [], left_le, by have := @left_le l (wantS l cOpen σ); simp; omega, HZ.out, HI1.out⟩
  case round =>
    obtain ⟨f, τ, acc, hf, hal, hs, hI⟩ := hrel
    have hpar := HS.out.par _ _ _ hI.out
    have hbP := hpar.blk
    have p2 : wr.cell? ⟨P, 2, none⟩ = some (.int .i64 τ.c) := by rw [blk_cell hbP]; rfl
    have lPr := blk_lt hbP
    have HPL := Lib.hid (parLeft_of hpar)
    by_cases h0 : τ.c = 0
    · have b0 : (τ.c == 0) = true := by rw [beq_iff_eq]; exact h0
      have hsg := sign_calls P g cap l τ cClose wr hpar
      have hst := serLoop_step (one := one) (val := val) acc hf hpar.fine h0
      have hmv := HS.out.move τ hpar.fine
      have HML := Lib.hid (hmv.left h0 hpar.fine)
      obtain ⟨f', rfl, hst⟩ := hst
      have hff : left l (one τ) ≤ f' := by have := HML.out; omega
      have hall : (acc ++ [val τ]).length + left l (one τ) ≤ l.length + 1 := by have := HML.out; rw [List.length_append]; simp only [List.length_cons, List.length_nil]; omega
      have hacl : acc.length ≤ l.length := by have := HML.out; omega
      have HST := Lib.hid (hs.out.trans hst)
      have H0 := Lib.hid h0
      cases ht : isT l 4 cClose τ with
      | true =>
        rw [ht] at hsg
        have HR := Lib.hid (show serR l one val σ = (acc, goS τ) by rw [HST.out, if_pos ht])
        have htk : takeS l 4 cClose τ = goS τ := by rw [takeS, if_pos ht]
        rw [htk] at hsg
        clear h0 ht hst hmv hpar hbP hf htk hs
        go_wp2_with fail
        refine hsg.mono ?_
        rintro e w2 ⟨rfl, hp2⟩
        have HI2 := Lib.hid (HS.out.step _ _ _ _ _ hI.out hp2)
        clear hp2 hsg
        go_wp2_with fail
        refine bodyPost_end (v := .tuple #[]) (by simp [results, Try.results44, go_sem]) rfl ?_
        exact ⟨rfl, by rw [HR.out]; exact HI2.out⟩
      | false =>
        rw [ht] at hsg
        have HR := Lib.hid (show serR l one val σ = serLoop l one val f' (one τ) (acc ++ [val τ]) by rw [HST.out, if_neg (by rw [ht]; simp)])
        have htk : takeS l 4 cClose τ = τ := by rw [takeS, if_neg (by rw [ht]; simp)]
        rw [htk] at hsg
        clear h0 ht hst hmv hpar hbP hf htk hs
        go_wp2_with fail
        refine hsg.mono ?_
        rintro e w2 ⟨rfl, hp2⟩
        have HI2 := Lib.hid (HS.out.step _ _ _ _ _ hI.out hp2)
        clear hp2 hsg
        go_wp2_with fail
        refine (HS.out.calls _ _ _ H0.out hacl HI2.out).mono ?_
        rintro e w3 ⟨rfl, hI3⟩
        have HI3 := Lib.hid hI3
        clear hI3
        go_wp2_with fail
        go_roundw
        case rel => exact ⟨f', _, _, hff, hall, HR.out, HI3.out⟩
        case measure => rw [parLeft_of (HS.out.par _ _ _ HI3.out), HPL.out]; exact HML.out
    · have b0 : (τ.c == 0) = false := by rw [beq_eq_false_iff_ne]; exact h0
      have HR := Lib.hid (show serR l one val σ = (acc, τ) by rw [hs.out, serLoop_stuck _ _ h0])
      clear h0 hpar hbP hf hs
      go_wp2_with fail
      refine bodyPost_end (v := .tuple #[]) (by simp [results, Try.results44, go_sem]) rfl ?_
      exact ⟨rfl, by rw [HR.out]; exact hI.out⟩

end Go.Proofs.Ytgoaiokpnifhfaa
