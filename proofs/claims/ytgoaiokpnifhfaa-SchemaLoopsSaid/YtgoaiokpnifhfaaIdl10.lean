/-
  Layer 4: Parse.
-/
import Derived.Test.YtgoaiokpnifhfaaIdl9
namespace Go.Proofs.Ytgoaiokpnifhfaa
open Go.RowKit
set_option linter.unusedVariables false
set_option linter.unusedSimpArgs false

theorem tokCells_k (l : List Tok) : ∀ (k : Nat), k < l.length → (tokCells l)[k * 3]? = some (.int .i64 (l[k]?.getD tok0).kind) ∧ (tokCells l)[k * 3 + 1]? = some (.string (l[k]?.getD tok0).text) ∧ (tokCells l)[k * 3 + 2]? = some (.int .i64 ((l[k]?.getD tok0).pos : Int)) := by
  induction l with
  | nil => intro k h; simp at h
  | cons a l ih =>
    intro k h
    have e : tokCells (a :: l) = .int .i64 a.kind :: .string a.text :: .int .i64 (a.pos : Int) :: tokCells l := rfl
    cases k with
    | zero => exact ⟨rfl, rfl, rfl⟩
    | succ k =>
      have h2 : k < l.length := by simpa using h
      obtain ⟨g1, g2, g3⟩ := ih k h2
      rw [e, show (k + 1) * 3 = k * 3 + 1 + 1 + 1 by omega]
      exact ⟨g1, g2, g3⟩
theorem toksF_most (s sg : ByteArray) : ∀ (n i : Nat) (l : List Tok), toksF s sg n i = .ok l → l.length ≤ n := by
  intro n
  induction n with
  | zero => intro i l h; simp [toksF] at h
  | succ n ih =>
    intro i l h
    simp only [toksF] at h
    split at h
    · cases h
    · split at h
      · cases h; simp
      · split at h
        · cases h
        · rename_i l' hl'
          cases h
          have := ih _ _ hl'
          simp; omega
theorem toks_most {s sg : ByteArray} {l : List Tok} (h : toks s sg = .ok l) : l.length ≤ 2048 := by
  unfold toks at h
  split at h
  · cases h
  · exact toksF_most s sg _ 0 l h
theorem sgI_low : ∀ j, j < sgI.size → bt sgI j < 128 := by decide +kernel

theorem toksF_err (s sg : ByteArray) : ∀ (n i : Nat) (c : Int) (p : Nat), toksF s sg n i = .error (c, p) → c ≠ 0 := by
  intro n
  induction n with
  | zero => intro i c p h; simp [toksF] at h; omega
  | succ n ih =>
    intro i c p h
    simp only [toksF] at h
    split at h
    · cases h; decide
    · split at h
      · cases h
      · split at h
        · rename_i x hx
          cases h
          exact ih _ _ _ hx
        · cases h
theorem toks_err {s sg : ByteArray} {c : Int} {p : Nat} (h : toks s sg = .error (c, p)) : c ≠ 0 := by
  unfold toks at h
  split at h
  · cases h; decide
  · exact toksF_err s sg _ 0 c p h

/-- what a call of Parse comes to -/
def ParsePost (w : World) (o : Except (Int × Nat) RawD) (e : Ending) (w' : World) : Prop :=
  Below w.heap.size w w' ∧
  match o with
  | .error (c, p) => e = .returned (.tuple #[.agg #[.slice none 0 0, .slice none 0 0, .slice none 0 0], .agg #[.int .i64 c, .int .i64 (p : Int)]])
  | .ok r => ∃ vs ve vr, e = .returned (.tuple #[.agg #[vs, ve, vr], .agg #[.int .i64 0, .int .i64 0]]) ∧ RawAt w' vs ve vr r

set_option maxHeartbeats 4000000 in
set_option maxRecDepth 100000 in
theorem parse_calls (s : ByteArray) (w : World) (hs : s.size ≤ 140737488351232) :
    Calls Try.prog 7 #[.string s] w (ParsePost w (parseI s)) := by
  have ht := fun (W : World) => tokens_calls s sgI W hs sgI_low
  have hz : parseI s = match toks s sgI with | .error x => .error x | .ok l => rawOf l := rfl
  obtain ⟨o, ho⟩ : ∃ o, toks s sgI = o := ⟨_, rfl⟩
  rw [ho] at ht hz
  have HZ := Lib.hid hz
  have HO := Lib.hid ho
  unfold TokensPost at ht
  clear hz ho
  cases o with
  | error x =>
    obtain ⟨c, p⟩ := x
    have HT := Lib.hid ht
    clear ht
    go_enter Try.func7, Try.ntmps7
    go_wp2_with fail
    refine (HT.out _).mono ?_
    rintro e w1 ⟨hB1, rfl⟩
    obtain ⟨R, hR⟩ : ∃ R, R = w.heap.size := ⟨_, rfl⟩
    have hW0 : Below w.heap.size w ((w.alloc (Obj.cells #[Value.slice none 0 0, Value.slice none 0 0, Value.slice none 0 0] 27)).alloc (Obj.cells #[Value.int .i64 0, Value.int .i64 0] 30)) := (below1 _ _).alloc (by simp) _
    have hRa := blk_below (blk_alloc (blk_new w (Obj.cells #[Value.slice none 0 0, Value.slice none 0 0, Value.slice none 0 0] 27 (0, 0))) (Obj.cells #[Value.int .i64 0, Value.int .i64 0] 30 (0, 0))) hB1 (by simp; omega)
    have hFa := blk_below (blk_new (w.alloc (Obj.cells #[Value.slice none 0 0, Value.slice none 0 0, Value.slice none 0 0] 27 (0, 0))) (Obj.cells #[Value.int .i64 0, Value.int .i64 0] 30 (0, 0))) hB1 (by simp)
    rw [World.size_alloc] at hFa
    have hz1 := hB1.size
    simp only [World.size_alloc] at hz1
    have HB1 := Lib.hid (hW0.trans (hB1.mono hW0.size))
    rw [← hR] at hRa hFa hz1
    have hRw : w.heap.size ≤ R := by omega
    have lR0 : R < w1.heap.size := by omega
    have lR1 : R + 1 < w1.heap.size := by omega
    have r0 : w1.cell? ⟨R, 0, none⟩ = some (.slice none 0 0) := by rw [blk_cell hRa]; rfl
    have r1 : w1.cell? ⟨R, 1, none⟩ = some (.slice none 0 0) := by rw [blk_cell hRa]; rfl
    have r2 : w1.cell? ⟨R, 2, none⟩ = some (.slice none 0 0) := by rw [blk_cell hRa]; rfl
    have z0 : w1.frozen? ⟨R, 0, none⟩ = false := blk_frozen hRa _
    have z1 : w1.frozen? ⟨R, 1, none⟩ = false := blk_frozen hRa _
    have z2 : w1.frozen? ⟨R, 2, none⟩ = false := blk_frozen hRa _
    have f0 : w1.cell? ⟨R + 1, 0, none⟩ = some (.int .i64 0) := by rw [blk_cell hFa]; rfl
    have f1 : w1.cell? ⟨R + 1, 1, none⟩ = some (.int .i64 0) := by rw [blk_cell hFa]; rfl
    have y0 : w1.frozen? ⟨R + 1, 0, none⟩ = false := blk_frozen hFa _
    have y1 : w1.frozen? ⟨R + 1, 1, none⟩ = false := blk_frozen hFa _
    have hc := toks_err HO.out
    have hcb : (c != 0) = true := by rw [bne_iff_ne]; exact hc
    rw [← hR]
    clear hRa hFa hB1 hW0 hR hc
    go_wp2_with fail
    go_region
    all_goals go_wp2_with fail
    all_goals refine bodyPost_ret (v := .tuple #[.agg #[.slice none 0 0, .slice none 0 0, .slice none 0 0], .agg #[.int .i64 c, .int .i64 (p : Int)]]) (by simp [results, Try.results7, go_sem, *]) rfl ?_
    all_goals unfold ParsePost
    all_goals rw [HZ.out]
    all_goals have hB := HB1.out
    all_goals have hz := hB.size
    all_goals exact ⟨by (repeat' (first | (with_reducible exact Below.refl _ _) | (with_reducible assumption) | (with_reducible refine below_drewN ?_ _) | (with_reducible refine Below.alloc ?_ ?_ _) | (with_reducible refine Below.drew ?_) | (with_reducible refine Below.setCell ?_ ?_ _) | (with_reducible refine Below.trans ?_ (Below.mono (by assumption) ?_)) | go_size)), rfl⟩
  | ok l =>
    have HT := Lib.hid ht
    have hE := toks_ended HO.out
    have hlm := toks_most HO.out
    clear ht
    go_enter Try.func7, Try.ntmps7
    go_wp2_with fail
    refine (HT.out _).mono ?_
    rintro e w1 ⟨hB1, v, rfl, hown⟩
    obtain ⟨R, hR⟩ : ∃ R, R = w.heap.size := ⟨_, rfl⟩
    have hW0 : Below w.heap.size w ((w.alloc (Obj.cells #[Value.slice none 0 0, Value.slice none 0 0, Value.slice none 0 0] 27)).alloc (Obj.cells #[Value.int .i64 0, Value.int .i64 0] 30)) := (below1 _ _).alloc (by simp) _
    have hRa := blk_below (blk_alloc (blk_new w (Obj.cells #[Value.slice none 0 0, Value.slice none 0 0, Value.slice none 0 0] 27 (0, 0))) (Obj.cells #[Value.int .i64 0, Value.int .i64 0] 30 (0, 0))) hB1 (by simp; omega)
    have hFa := blk_below (blk_new (w.alloc (Obj.cells #[Value.slice none 0 0, Value.slice none 0 0, Value.slice none 0 0] 27 (0, 0))) (Obj.cells #[Value.int .i64 0, Value.int .i64 0] 30 (0, 0))) hB1 (by simp)
    rw [World.size_alloc] at hFa
    have hz1 := hB1.size
    simp only [World.size_alloc] at hz1
    have HB1 := Lib.hid (hW0.trans (hB1.mono hW0.size))
    rw [← hR] at hRa hFa hz1
    have hRw : w.heap.size ≤ R := by omega
    have lR0 : R < w1.heap.size := by omega
    have lR1 : R + 1 < w1.heap.size := by omega
    obtain ⟨g, cap, rfl, hg1, hg2⟩ := hown.form hE.1
    have hTk : ToksIn w1 g l := fun k hk => by
      have hc := tokCells_k l k hk
      have h3 := hown.cells (g := g) rfl
      refine ⟨?_, ?_, ?_⟩
      · have := h3 (k * 3) _ hc.1; simpa [Addr.add_lit] using this
      · have := h3 (k * 3 + 1) _ hc.2.1; simpa [Addr.add_lit] using this
      · have := h3 (k * 3 + 2) _ hc.2.2; simpa [Addr.add_lit] using this
    rw [← hR]
    obtain ⟨P, hP⟩ : ∃ P, P = w1.heap.size + 1 := ⟨_, rfl⟩
    obtain ⟨W, hW⟩ : ∃ W, W = (w1.alloc (Obj.cells #[Value.int .i64 0, Value.int .i64 0] 30)).alloc (Obj.cells #[Value.slice (some ⟨g, 0, none⟩) l.length cap, Value.int .i64 0, Value.int .i64 0, Value.int .i64 0] 61) := ⟨_, rfl⟩
    have hbW : Below w1.heap.size w1 W := by rw [hW]; exact (below1 _ _).alloc (by simp) _
    have hPar : ParAt W P g cap l ⟨0, 0, 0⟩ := by
      refine ⟨?_, hTk.kept (hbW.block g hg2), by omega, hE, ⟨Nat.zero_le _, fun _ => hE.1⟩, by omega⟩
      rw [hW, hP]
      have := blk_new (w1.alloc (Obj.cells #[Value.int .i64 0, Value.int .i64 0] 30)) (parB g cap l ⟨0, 0, 0⟩)
      rw [World.size_alloc] at this
      exact this
    have hRb := blk_below hRa hbW lR0
    have hFb := blk_below hFa hbW lR1
    have hzW : W.heap.size = w1.heap.size + 1 + 1 := by rw [hW]; simp
    have HBW := Lib.hid (HB1.out.trans (hbW.mono HB1.out.size))
    have HPAR := Lib.hid hPar
    have HWE := Lib.hid hW
    have HZW := Lib.hid hzW
    have lP1 : R + 1 < P := by omega
    clear hPar hbW hTk hown hg1 hg2 hRa hFa hB1 hW0 hR hW hE hzW
    go_wp2_with fail
    rw [← HWE.out, ← hP]
    refine (all_calls P g cap l W HPAR.out).mono ?_
    rintro e w3 ⟨vs, ve, vr, rfl, hraw, hpost⟩
    obtain ⟨avs, cvs, hvs⟩ : ∃ a c, vs = .slice a (allR l).1.structs.length c := by obtain ⟨sl, el, ⟨a, c, e, _⟩, _⟩ := hraw; exact ⟨a, c, e⟩
    obtain ⟨ave, cve, hve⟩ : ∃ a c, ve = .slice a (allR l).1.enums.length c := by obtain ⟨sl, el, _, ⟨a, c, e, _⟩, _⟩ := hraw; exact ⟨a, c, e⟩
    obtain ⟨avr, cvr, hvr⟩ : ∃ a c, vr = .slice a (allR l).1.roots.length c := by obtain ⟨sl, el, _, _, ⟨a, c, e, _⟩, _⟩ := hraw; exact ⟨a, c, e⟩
    subst hvs
    subst hve
    subst hvr
    have hRc := blk_grown hRb hpost.grown (by omega)
    have hFc := blk_grown hFb hpost.grown (by omega)
    have hbP := hpost.par.blk
    obtain ⟨σ, hσ⟩ : ∃ σ, (allR l).2 = σ := ⟨_, rfl⟩
    obtain ⟨r, hr⟩ : ∃ r, (allR l).1 = r := ⟨_, rfl⟩
    rw [hσ] at hbP
    rw [hr] at hraw ⊢
    have hro : rawOf l = if σ.c = 0 then .ok r else .error (σ.c, σ.p) := by rw [rawOf, hσ, hr]
    have HRO := Lib.hid hro
    have p2 : w3.cell? ⟨P, 2, none⟩ = some (.int .i64 σ.c) := by rw [blk_cell hbP]; rfl
    have p3 : w3.cell? ⟨P, 3, none⟩ = some (.int .i64 (σ.p : Int)) := by rw [blk_cell hbP]; rfl
    have lP3 := blk_lt hbP
    have lR3 := blk_lt hRc
    have lF3 := blk_lt hFc
    have r0 : w3.cell? ⟨R, 0, none⟩ = some (.slice none 0 0) := by rw [blk_cell hRc]; rfl
    have r1 : w3.cell? ⟨R, 1, none⟩ = some (.slice none 0 0) := by rw [blk_cell hRc]; rfl
    have r2 : w3.cell? ⟨R, 2, none⟩ = some (.slice none 0 0) := by rw [blk_cell hRc]; rfl
    have z0 : w3.frozen? ⟨R, 0, none⟩ = false := blk_frozen hRc _
    have z1 : w3.frozen? ⟨R, 1, none⟩ = false := blk_frozen hRc _
    have z2 : w3.frozen? ⟨R, 2, none⟩ = false := blk_frozen hRc _
    have f0 : w3.cell? ⟨R + 1, 0, none⟩ = some (.int .i64 0) := by rw [blk_cell hFc]; rfl
    have f1 : w3.cell? ⟨R + 1, 1, none⟩ = some (.int .i64 0) := by rw [blk_cell hFc]; rfl
    have y0 : w3.frozen? ⟨R + 1, 0, none⟩ = false := blk_frozen hFc _
    have y1 : w3.frozen? ⟨R + 1, 1, none⟩ = false := blk_frozen hFc _
    have hzw := HZW.out
    have hWw := HBW.out.size
    have HB3 := Lib.hid (HBW.out.grown hpost.grown (by omega) (fun k e => by have e2 := Option.some.inj e; omega))
    have HRAW := Lib.hid hraw
    have hneR : ∀ q, W.heap.size ≤ q → q ≠ R := fun q hq => by omega
    have hneF : ∀ q, W.heap.size ≤ q → q ≠ R + 1 := fun q hq => by omega
    have HNR := Lib.hid hneR
    have HNF := Lib.hid hneF
    have hB3 := HB3.out
    have hz3 := hB3.size
    clear hro hσ hr hbP hRc hFc hRb hFb hpost hraw hneR hneF hzw hWw hP hB3
    by_cases h0 : σ.c = 0
    · have b0 : (σ.c != 0) = false := by rw [bne_eq_false_iff_eq]; exact h0
      have HQ := Lib.hid (show parseI s = .ok r by rw [HZ.out, HRO.out, if_pos h0])
      clear h0
      go_wp2_with fail
      refine bodyPost_ret (v := .tuple #[.agg #[.slice avs r.structs.length cvs, .slice ave r.enums.length cve, .slice avr r.roots.length cvr], .agg #[.int .i64 0, .int .i64 0]]) (by simp [results, Try.results7, go_sem, *]) rfl ?_
      unfold ParsePost
      rw [HQ.out]
      have hB := HB3.out
      refine ⟨by (repeat' (first | (with_reducible exact Below.refl _ _) | (with_reducible assumption) | (with_reducible refine below_drewN ?_ _) | (with_reducible refine Below.alloc ?_ ?_ _) | (with_reducible refine Below.drew ?_) | (with_reducible refine Below.setCell ?_ ?_ _) | (with_reducible refine Below.trans ?_ (Below.mono (by assumption) ?_)) | go_size)), _, _, _, rfl, ?_⟩
      refine RawIn.raw (A := fun q => W.heap.size ≤ q) ?_
      exact (((((HRAW.out.setc HNR.out 0 _).setc HNR.out 1 _).setc HNR.out 2 _).setc HNF.out 0 _).setc HNF.out 1 _).kept (by simp) (fun q hq hl => ⟨Below.heap_alloc _ _ _ hl, hq⟩)
    · have b0 : (σ.c != 0) = true := by rw [bne_iff_ne]; exact h0
      have HQ := Lib.hid (show parseI s = .error (σ.c, σ.p) by rw [HZ.out, HRO.out, if_neg h0])
      clear h0
      go_wp2_with fail
      go_region
      all_goals go_wp2_with fail
      all_goals refine bodyPost_ret (v := .tuple #[.agg #[.slice none 0 0, .slice none 0 0, .slice none 0 0], .agg #[.int .i64 σ.c, .int .i64 (σ.p : Int)]]) (by simp [results, Try.results7, go_sem, *]) rfl ?_
      all_goals unfold ParsePost
      all_goals rw [HQ.out]
      all_goals have hB := HB3.out
      all_goals exact ⟨by (repeat' (first | (with_reducible exact Below.refl _ _) | (with_reducible assumption) | (with_reducible refine below_drewN ?_ _) | (with_reducible refine Below.alloc ?_ ?_ _) | (with_reducible refine Below.drew ?_) | (with_reducible refine Below.setCell ?_ ?_ _) | (with_reducible refine Below.trans ?_ (Below.mono (by assumption) ?_)) | go_size)), rfl⟩

end Go.Proofs.Ytgoaiokpnifhfaa
