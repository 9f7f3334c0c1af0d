/-
  Layer 4: a type.
-/
import Derived.Test.YtgoaiokpnifhfaaIdl2
namespace Go.Proofs.Ytgoaiokpnifhfaa
open Go.RowKit
set_option linter.unusedVariables false
set_option linter.unusedSimpArgs false

theorem par_seta {w : World} {P g cap : Nat} {l : List Tok} {σ : PS} (h : ParAt w P g cap l σ) (a : Nat) (hf : Fine l ⟨a, σ.c, σ.p⟩) : ParPost w P g cap l ⟨a, σ.c, σ.p⟩ (w.setCell ⟨P, 1, none⟩ (.int .i64 (a : Int))) := by
  have hb : (w.setCell ⟨P, 1, none⟩ (.int .i64 (a : Int))).heap[P]? = some (parB g cap l ⟨a, σ.c, σ.p⟩) := by
    rw [blk_set h.blk]; rfl
  have hg : w.grownBy (w.setCell ⟨P, 1, none⟩ (.int .i64 (a : Int))) (some P) := grown_set (World.grownBy.refl _ _) _ _
  exact ⟨hg, h.grown hg hb hf⟩

/-- a written type, as cells -/
def rtyB (nm : ByteArray) (n : Nat) (p : Nat) : Obj := .cells #[.string nm, .int .i64 (n : Int), .int .i64 (p : Int)] 38 (0, 0)
def rtyA (t : RTy) : Value := .agg #[.string t.name, .int .i64 (t.lists : Int), .int .i64 (t.pos : Int)]
def rtyN (w : World) (O : Nat) : Nat := (intOf ((w.cell? ⟨O, 1, none⟩).getD undef)).toNat
theorem rtyN_of {w : World} {O : Nat} {nm : ByteArray} {n p : Nat} (h : w.heap[O]? = some (rtyB nm n p)) : rtyN w O = n := by
  have : w.cell? ⟨O, 1, none⟩ = some (.int .i64 (n : Int)) := by rw [blk_cell h]; rfl
  simp [rtyN, this, intOf]

/-- where the type's reading stands -/
structure KdInv (w : World) (P g cap : Nat) (l : List Tok) (O U : Nat) (nm : ByteArray) (n p : Nat) (τ : PS) (wr : World) : Prop where
  post : ParPost w P g cap l τ wr
  res : wr.heap[O]? = some (rtyB ⟨#[]⟩ 0 0)
  out : wr.heap[U]? = some (rtyB nm n p)
theorem KdInv.step {w : World} {P g cap : Nat} {l : List Tok} {O U : Nat} {nm : ByteArray} {n p : Nat} {τ υ : PS} {wr w2 : World} (h : KdInv w P g cap l O U nm n p τ wr) (hO : w.heap.size ≤ O) (hU : O < U) (hP : P < w.heap.size) (h2 : ParPost wr P g cap l υ w2) : KdInv w P g cap l O U nm n p υ w2 :=
  ⟨h.post.trans h2, blk_grown h.res h2.grown (by omega), blk_grown h.out h2.grown (by omega)⟩
theorem KdInv.put {w : World} {P g cap : Nat} {l : List Tok} {O U : Nat} {nm : ByteArray} {n p : Nat} {τ : PS} {wr : World} (h : KdInv w P g cap l O U nm n p τ wr) (hO : w.heap.size ≤ O) (hU : O < U) (hP : P < w.heap.size) (hg : g < w.heap.size) (m : Nat) : KdInv w P g cap l O U nm m p τ (wr.setCell ⟨U, 1, none⟩ (.int .i64 (m : Int))) :=
  ⟨h.post.far (by omega) hP hg 1 _, blk_set_ne h.res _ (by simp; omega) _, by rw [blk_set h.out]; rfl⟩
theorem KdInv.name {w : World} {P g cap : Nat} {l : List Tok} {O U : Nat} {nm : ByteArray} {n p : Nat} {τ : PS} {wr : World} (h : KdInv w P g cap l O U nm n p τ wr) (hO : w.heap.size ≤ O) (hU : O < U) (hP : P < w.heap.size) (hg : g < w.heap.size) (m : ByteArray) : KdInv w P g cap l O U m n p τ (wr.setCell ⟨U, 0, none⟩ (.string m)) :=
  ⟨h.post.far (by omega) hP hg 0 _, blk_set_ne h.res _ (by simp; omega) _, by rw [blk_set h.out]; rfl⟩

set_option maxHeartbeats 4000000 in
set_option maxRecDepth 100000 in
theorem kind_calls (P g cap : Nat) (l : List Tok) (σ : PS) (w : World) (h : ParAt w P g cap l σ) :
    Calls Try.prog 46 #[.pointer (some ⟨P, 0, none⟩)] w fun e w' => e = .returned (rtyA (kindV l σ)) ∧ ParPost w P g cap l (kindS l σ) w' := by
  have lP := blk_lt h.blk
  have lg := h.toks.lt h.ended.1
  have hE := h.ended
  have HE := Lib.hid hE
  have H := Lib.hid h
  have hps : hereT l σ.a = hereT l σ.a := rfl
  obtain ⟨t, ht⟩ : ∃ t, hereT l σ.a = t := ⟨_, rfl⟩
  have hh := fun (W : World) (h : ParAt W P g cap l σ) => here_calls P g cap l σ W h
  rw [ht] at hh
  have HT := Lib.hid ht
  have HH := Lib.hid hh
  have kf := fun (w : World) (a b c : Value) => field_tok2 w a b c
  have kf1 := fun (w : World) (a b c : Value) => field_tok1 w a b c
  clear h hh ht hE hps
  go_enter Try.func46, Try.ntmps46
  go_wp2_with fail
  refine (HH.out _ (H.out.below (below1 _ _))).mono ?_
  rintro e w1 ⟨rfl, hB1⟩
  have h1 := (H.out.below (below1 _ _)).below hB1
  have hO1 := blk_below (blk_new w _) hB1 (by simp)
  have hz1 := hB1.size
  simp only [World.size_alloc] at hz1
  have HB1 := Lib.hid ((below1 w _).trans (hB1.mono (by simp)))
  have HO1 := Lib.hid hO1
  clear hO1 h1 hB1
  simp only [tokA]
  go_wp2_with fail
  obtain ⟨O, hO⟩ : ∃ O, O = w.heap.size := ⟨_, rfl⟩
  obtain ⟨U, hU⟩ : ∃ U, U = w1.heap.size := ⟨_, rfl⟩
  have hI0 : KdInv w P g cap l O U ⟨#[]⟩ 0 t.pos σ (w1.alloc (Obj.cells #[Value.string { data := #[] }, Value.int IntKind.i64 0, Value.int IntKind.i64 ↑t.pos] 38)) :=
    ⟨(ParPost.of_below H.out HB1.out).below (below1 _ _), by rw [hO]; exact blk_alloc HO1.out _, by rw [hU]; exact blk_new _ _⟩
  have hOU : O < U := by omega
  have hOw : w.heap.size ≤ O := by omega
  rw [← hO, ← hU]
  have HI0 := Lib.hid hI0
  clear hI0 hO hU
  have hz0 : kindK l σ = kindLoop l 5 0 σ := rfl
  have HZ0 := Lib.hid hz0
  clear hz0 hz1
  go_loopw [8] (fun _ wr => ∃ (f n : Nat) (τ : PS), f + n = 5 ∧ n ≤ 4 ∧ Hid (n = 4 → τ.c ≠ 0) ∧ Hid (kindK l σ = kindLoop l f n τ) ∧ Hid (KdInv w P g cap l O U ⟨#[]⟩ n t.pos τ wr)) (fun _ wr => 5 - rtyN wr U)
  case atStart => exact ⟨5, 0, σ, rfl, by omega, fun e => by omega, HZ0.out, HI0.out⟩
  case round =>
    obtain ⟨f, n, τ, hfn, hn4, h4, hk, hI⟩ := hrel
    have HRN := Lib.hid (rtyN_of hI.out.out)
    have hw := word_calls P g cap l τ cList wr hI.out.post.par
    have lPr := blk_lt hI.out.post.par.blk
    have lUr := blk_lt hI.out.out
    cases ht : isT l 1 cList τ with
    | true =>
      rw [ht] at hw
      have hf := fine_go HE.out hI.out.post.par.fine (by rw [(isT_kind ht).2.1]; decide)
      have hkt := isT_kind ht
      have hn3 : n < 4 := by
        by_cases e : n = 4
        · exact absurd hkt.1 (h4.out e)
        · omega
      obtain ⟨f', rfl⟩ : ∃ f', f = f' + 1 := ⟨f - 1, by omega⟩
      have hmv := kindStep_moves HE.out (n := n) hI.out.post.par.fine ht
      have hk2 : kindK l σ = kindLoop l f' (n + 1) (kindStep l n τ) := by rw [hk.out]; simp only [kindLoop]; rw [if_pos ht]
      have htk : takeS l 1 cList τ = goS τ := by rw [takeS, if_pos ht]
      rw [htk] at hw
      have HK2 := Lib.hid hk2
      have HMV := Lib.hid hmv
      have HF := Lib.hid hf
      clear hk2 hmv htk hkt ht hf
      go_wp2_with fail
      refine hw.mono ?_
      rintro e w2 ⟨rfl, hp2⟩
      have hI2 := hI.out.step hOw hOU lP hp2
      have k0 : w2.cell? ⟨U, 0, none⟩ = some (.string ⟨#[]⟩) := by rw [blk_cell hI2.out]; rfl
      have k1 : w2.cell? ⟨U, 1, none⟩ = some (.int .i64 (n : Int)) := by rw [blk_cell hI2.out]; rfl
      have k2 : w2.cell? ⟨U, 2, none⟩ = some (.int .i64 (t.pos : Int)) := by rw [blk_cell hI2.out]; rfl
      have x0 : w2.frozen? ⟨U, 0, none⟩ = false := blk_frozen hI2.out _
      have x1 : w2.frozen? ⟨U, 1, none⟩ = false := blk_frozen hI2.out _
      have r0 : w2.cell? ⟨O, 0, none⟩ = some (.string ⟨#[]⟩) := by rw [blk_cell hI2.res]; rfl
      have r1 : w2.cell? ⟨O, 1, none⟩ = some (.int .i64 0) := by rw [blk_cell hI2.res]; rfl
      have r2 : w2.cell? ⟨O, 2, none⟩ = some (.int .i64 0) := by rw [blk_cell hI2.res]; rfl
      have z0 : w2.frozen? ⟨O, 0, none⟩ = false := blk_frozen hI2.res _
      have z1 : w2.frozen? ⟨O, 1, none⟩ = false := blk_frozen hI2.res _
      have z2 : w2.frozen? ⟨O, 2, none⟩ = false := blk_frozen hI2.res _
      have hbP := hI2.post.par.blk
      have p1 : w2.cell? ⟨P, 1, none⟩ = some (.int .i64 ((τ.a : Int) + 1)) := by rw [blk_cell hbP]; rfl
      have y1 : w2.frozen? ⟨P, 1, none⟩ = false := blk_frozen hbP _
      have hPU : P ≠ U := by omega
      have hnI : (n : Int) ≤ 4 := by omega
      have ha1 : (τ.a : Int) ≤ 100000 := by have := hI.out.post.par.fine.1; have := hI.out.post.par.small; omega
      have hfa := hI.out.post.par.fine
      have HFA := Lib.hid hfa
      have HI2 := Lib.hid hI2
      clear hw hp2 hI2 hbP hfa
      have hI3 := HI2.out.put hOw hOU lP lg (n + 1)
      by_cases hm : 3 < n + 1
      · have dm : decide ((3 : Int) < (n : Int) + 1) = true := decide_eq_true (by omega)
        have HKS := Lib.hid (show kindStep l n τ = wantS l cLt (failS l 16 τ) by unfold kindStep; rw [if_pos hm])
        have hI4 := hI3.step hOw hOU lP (par_seta hI3.post.par τ.a HFA.out)
        have HI4 := Lib.hid hI4
        clear hI3 hI4 hm
        go_wp2_with fail
        refine (fail_calls P g cap l τ 16 (by decide) _ HI4.out.post.par).mono ?_
        rintro e w3 ⟨rfl, hp3⟩
        have HI5 := Lib.hid (HI4.out.step hOw hOU lP hp3)
        clear hp3 HI4
        clear k0 k1 k2 x0 x1 r0 r1 r2 z0 z1 z2
        go_wp2_with fail
        refine (want_calls P g cap l _ cLt w3 HI5.out.post.par).mono ?_
        rintro e w4 ⟨rfl, hp4⟩
        rw [← HKS.out] at hp4
        have HI6 := Lib.hid (HI5.out.step hOw hOU lP hp4)
        clear hp4
        go_wp2_with fail
        have hr1 := rtyN_of HI6.out.out
        have hr2 := HRN.out
        refine ⟨⟨f', n + 1, kindStep l n τ, by omega, by omega, fun e => HMV.out.2 (by omega), HK2.out, HI6.out⟩, by rw [hr1, hr2]; omega⟩
      · have dm : decide ((3 : Int) < (n : Int) + 1) = false := decide_eq_false (by omega)
        have HKS := Lib.hid (show kindStep l n τ = wantS l cLt (goS τ) by unfold kindStep; rw [if_neg hm])
        have HI4 := Lib.hid hI3
        clear hI3 hm
        go_wp2_with fail
        refine (want_calls P g cap l _ cLt _ HI4.out.post.par).mono ?_
        rintro e w4 ⟨rfl, hp4⟩
        rw [← HKS.out] at hp4
        have HI6 := Lib.hid (HI4.out.step hOw hOU lP hp4)
        clear hp4
        clear k0 k1 k2 x0 x1 r0 r1 r2 z0 z1 z2
        go_wp2_with fail
        have hr1 := rtyN_of HI6.out.out
        have hr2 := HRN.out
        refine ⟨⟨f', n + 1, kindStep l n τ, by omega, by omega, fun e => HMV.out.2 (by omega), HK2.out, HI6.out⟩, by rw [hr1, hr2]; omega⟩
    | false =>
      rw [ht] at hw
      have hk2 : kindK l σ = (n, τ) := by
        rw [hk.out]
        cases f with
        | zero => rfl
        | succ f => simp only [kindLoop]; rw [if_neg (by rw [ht]; simp)]
      have htk : takeS l 1 cList τ = τ := by rw [takeS, if_neg (by rw [ht]; simp)]
      rw [htk] at hw
      have HK2 := Lib.hid hk2
      clear hk2 htk ht
      go_wp2_with fail
      refine hw.mono ?_
      rintro e w2 ⟨rfl, hp2⟩
      have HI2 := Lib.hid (hI.out.step hOw hOU lP hp2)
      clear hw hp2
      go_wp2_with fail
      refine (name_calls P g cap l τ false w2 HI2.out.post.par).mono ?_
      rintro e w3 ⟨rfl, hp3⟩
      have hI3 := HI2.out.step hOw hOU lP hp3
      obtain ⟨nm, hnm⟩ : ∃ nm, nm = nameV l false τ := ⟨_, rfl⟩
      obtain ⟨υ, hυ⟩ : ∃ υ, υ = nameS l false τ := ⟨_, rfl⟩
      rw [← hυ] at hI3
      rw [← hnm]
      have HV := Lib.hid (show kindV l σ = ⟨nm.text, n, t.pos⟩ by rw [kindV, HK2.out, HT.out, ← hnm])
      have HS := Lib.hid (show kindS l σ = wantN l cGt n υ by rw [kindS, HK2.out, ← hυ])
      have k0 : w3.cell? ⟨U, 0, none⟩ = some (.string ⟨#[]⟩) := by rw [blk_cell hI3.out]; rfl
      have k1 : w3.cell? ⟨U, 1, none⟩ = some (.int .i64 (n : Int)) := by rw [blk_cell hI3.out]; rfl
      have k2 : w3.cell? ⟨U, 2, none⟩ = some (.int .i64 (t.pos : Int)) := by rw [blk_cell hI3.out]; rfl
      have x0 : w3.frozen? ⟨U, 0, none⟩ = false := blk_frozen hI3.out _
      have x1 : w3.frozen? ⟨U, 1, none⟩ = false := blk_frozen hI3.out _
      have r0 : w3.cell? ⟨O, 0, none⟩ = some (.string ⟨#[]⟩) := by rw [blk_cell hI3.res]; rfl
      have r1 : w3.cell? ⟨O, 1, none⟩ = some (.int .i64 0) := by rw [blk_cell hI3.res]; rfl
      have r2 : w3.cell? ⟨O, 2, none⟩ = some (.int .i64 0) := by rw [blk_cell hI3.res]; rfl
      have z0 : w3.frozen? ⟨O, 0, none⟩ = false := blk_frozen hI3.res _
      have z1 : w3.frozen? ⟨O, 1, none⟩ = false := blk_frozen hI3.res _
      have z2 : w3.frozen? ⟨O, 2, none⟩ = false := blk_frozen hI3.res _
      have lU3 := blk_lt hI3.out
      have hI4 := hI3.name hOw hOU lP lg nm.text
      have HI4 := Lib.hid hI4
      clear hp3 hnm hυ hI3 hI4
      simp only [tokA]
      have hn4I : (n : Int) ≤ 4 := by omega
      go_wp2_with fail
      clear k0 k1 k2 x0 x1 r0 r1 r2 z0 z1 z2
      rename World => wo
      go_loopw [34] (fun v34 wr => ∃ (k : Nat) (τ' : PS), k ≤ n ∧ v34 = .int .i64 (k : Int) ∧ Hid (wantN l cGt n υ = wantN l cGt (n - k) τ') ∧ Hid (KdInv w P g cap l O U nm.text n t.pos τ' wr)) (fun v34 _ => n - (intOf v34).toNat)
      case atStart => exact ⟨0, υ, by omega, rfl, rfl, HI4.out⟩
      case round =>
        obtain ⟨k, τ', hkn, rfl, hwn, hI⟩ := hrel
        have hkI : (k : Int) ≤ 4 := by omega
        by_cases hk : k < n
        · have dk : decide ((k : Int) < (n : Int)) = true := decide_eq_true (by omega)
          have hwn2 : wantN l cGt n υ = wantN l cGt (n - (k + 1)) (wantS l cGt τ') := by
            rw [hwn.out, show n - k = (n - (k + 1)) + 1 by omega]; rfl
          have HWN2 := Lib.hid hwn2
          clear hwn2
          go_wp2_with fail
          refine (want_calls P g cap l τ' cGt _ hI.out.post.par).mono ?_
          rintro e w5 ⟨rfl, hp5⟩
          have HI5 := Lib.hid (hI.out.step hOw hOU lP hp5)
          clear hp5
          go_wp2_with fail
          go_roundw
          case rel => exact ⟨k + 1, _, by omega, by go_num, HWN2.out, HI5.out⟩
          case measure => simp [intOf]; omega
        · have dk : decide ((k : Int) < (n : Int)) = false := decide_eq_false (by omega)
          have hwn2 : wantN l cGt n υ = τ' := by rw [hwn.out, show n - k = 0 by omega]; rfl
          have HWN2 := Lib.hid hwn2
          have hI5 := hI.out
          have k0 : wr.cell? ⟨U, 0, none⟩ = some (.string nm.text) := by rw [blk_cell hI5.out]; rfl
          have k1 : wr.cell? ⟨U, 1, none⟩ = some (.int .i64 (n : Int)) := by rw [blk_cell hI5.out]; rfl
          have k2 : wr.cell? ⟨U, 2, none⟩ = some (.int .i64 (t.pos : Int)) := by rw [blk_cell hI5.out]; rfl
          have x0 : wr.frozen? ⟨U, 0, none⟩ = false := blk_frozen hI5.out _
          have x1 : wr.frozen? ⟨U, 1, none⟩ = false := blk_frozen hI5.out _
          have r0 : wr.cell? ⟨O, 0, none⟩ = some (.string ⟨#[]⟩) := by rw [blk_cell hI5.res]; rfl
          have r1 : wr.cell? ⟨O, 1, none⟩ = some (.int .i64 0) := by rw [blk_cell hI5.res]; rfl
          have r2 : wr.cell? ⟨O, 2, none⟩ = some (.int .i64 0) := by rw [blk_cell hI5.res]; rfl
          have z0 : wr.frozen? ⟨O, 0, none⟩ = false := blk_frozen hI5.res _
          have z1 : wr.frozen? ⟨O, 1, none⟩ = false := blk_frozen hI5.res _
          have z2 : wr.frozen? ⟨O, 2, none⟩ = false := blk_frozen hI5.res _
          clear hwn2 hI5
          go_wp2_with fail
          refine bodyPost_ret (v := rtyA ⟨nm.text, n, t.pos⟩) (by simp [results, Try.results46, go_sem, rtyA, *]) rfl ?_
          refine ⟨by rw [HV.out], ?_⟩
          rw [HS.out, HWN2.out]
          exact ((hI.out.post.far hOw lP lg 0 _).far hOw lP lg 1 _).far hOw lP lg 2 _

end Go.Proofs.Ytgoaiokpnifhfaa
