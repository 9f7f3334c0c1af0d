/-
  Layer 4: the fixed facts.
-/
import Derived.Test.YtgoaiokpnifhfaaDoorPkIdl10
import Derived.Test.YtgoaiokpnifhfaaDoorPkNestP
namespace Go.Proofs.YtgoaiokpnifhfaaDoor
open Go.RowKit
set_option linter.unusedVariables false
set_option linter.unusedSimpArgs false

theorem firstOf_some {o : Except (Int × Nat) RawD} {a b c : Nat} {d : List UInt8} (h : firstOf o = some (a, b, c, d)) : ∃ r x xs f fs, o = .ok r ∧ r.structs = x :: xs ∧ x.fields = f :: fs ∧ r.structs.length = a ∧ x.fields.length = b ∧ f.ty.lists = c ∧ f.ty.name.data.toList = d := by
  cases o with
  | error x => cases h
  | ok r =>
    cases hr : r.structs with
    | nil => simp [firstOf, hr] at h
    | cons x xs =>
      cases hx : x.fields with
      | nil => simp [firstOf, hr, hx] at h
      | cons f fs =>
        simp only [firstOf, hr, hx, Option.some.injEq, Prod.mk.injEq] at h
        exact ⟨r, x, xs, f, fs, rfl, hr, hx, by rw [hr]; exact h.1, by rw [hx]; exact h.2.1, h.2.2.1, h.2.2.2⟩
theorem faultOf_some {o : Except (Int × Nat) RawD} {x : Int × Nat} (h : faultOf o = some x) : o = .error x := by
  cases o with
  | error y => cases h; rfl
  | ok r => cases h

theorem alloc_kept4 {w : World} {a : Addr} {v : Value} {o : Obj} (h : w.cell? a = some v) : (w.alloc o).cell? a = some v := (World.cell?_alloc_some w a o (by rw [h]; rfl)).trans h
theorem slice_form {w : World} {A : Nat → Prop} {v : Value} {n : Nat} {cs : List Value} (h : SliceAt w A v n cs) : ∃ a c, v = .slice a n c := by
  obtain ⟨a, c, e, _⟩ := h; exact ⟨a, c, e⟩
/-- the first field of the first struct, in memory -/
theorem raw_first {w : World} {vs ve vr : Value} {r : RawD} {x : RRec} {xs : List RRec} {f : RField} {fs : List RField} (h : RawAt w vs ve vr r) (hr : r.structs = x :: xs) (hx : x.fields = f :: fs) :
    ∃ q1 c1 q2 c2 a2 d2 a3 d3, vs = .slice (some ⟨q1, 0, none⟩) r.structs.length c1 ∧ ve = .slice a2 r.enums.length d2 ∧ vr = .slice a3 r.roots.length d3 ∧ w.cell? ⟨q1, 2, none⟩ = some (.slice (some ⟨q2, 0, none⟩) x.fields.length c2) ∧ w.cell? ⟨q2, 2, none⟩ = some (.string f.ty.name) ∧ w.cell? ⟨q2, 3, none⟩ = some (.int .i64 (f.ty.lists : Int)) ∧ q1 < w.heap.size ∧ q2 < w.heap.size := by
  obtain ⟨sl, el, h1, h2, h3, h4, h5⟩ := h
  obtain ⟨a2, d2, e2⟩ := slice_form h2
  obtain ⟨a3, d3, e3⟩ := slice_form h3
  obtain ⟨a, c1, e, hq⟩ := h1
  obtain ⟨q1, rfl, _, hl1, hc1⟩ := hq (by rw [hr]; simp)
  rw [hr] at h4 hc1
  cases sl with
  | nil => exact h4.elim
  | cons v0 sl =>
    obtain ⟨b, c2, rfl, hq2⟩ := h4.1
    obtain ⟨q2, rfl, _, hl2, hc2⟩ := hq2 (by rw [fldN, hx]; simp)
    rw [fldC, hx] at hc2
    exact ⟨q1, c1, q2, c2, a2, d2, a3, d3, e, e2, e3, hc1 2 _ rfl, hc2 2 _ rfl, hc2 3 _ rfl, hl1, hl2⟩

set_option maxHeartbeats 4000000 in
set_option maxRecDepth 100000 in
theorem awake04_calls (w : World) : Calls Tryd.prog 14 #[] w fun e w' => e = .returned (.bool true) ∧ Below w.heap.size w w' := by
  have h1 := fun (W : World) => parse_calls awP1 W (by decide)
  have h2 := fun (W : World) => parse_calls awP2 W (by decide)
  obtain ⟨r, x, xs, f, fs, ho, hr, hx, ha, hb, hc, hd⟩ := firstOf_some (eq_of_beq awP1_is)
  rw [ho] at h1
  rw [faultOf_some (eq_of_beq awP2_is)] at h2
  unfold ParsePost at h1 h2
  simp only [show ((13 : Nat) : Int) = 13 from rfl] at h2
  have HR := Lib.hid hr
  have HX := Lib.hid hx
  have HA := Lib.hid ha
  have HB := Lib.hid hb
  have HC := Lib.hid hc
  have H1 := Lib.hid h1
  have H2 := Lib.hid h2
  clear h1 h2 ho hr hx ha hb hc hd
  go_enter Tryd.func14, Tryd.ntmps14
  go_wp2_with fail
  refine (H1.out w).mono ?_
  rintro e w1 ⟨hB1, vs, ve, vr, rfl, hraw⟩
  obtain ⟨q1, c1, q2, c2, a2, d2, a3, d3, rfl, rfl, rfl, k1, k2, k3, l1, l2⟩ := raw_first hraw HR.out HX.out
  rw [HA.out]
  rw [HB.out] at k1
  rw [HC.out, show ((1 : Nat) : Int) = 1 from rfl] at k3
  obtain ⟨ne, hne⟩ : ∃ n, n = r.enums.length := ⟨_, rfl⟩
  obtain ⟨nr, hnr⟩ : ∃ n, n = r.roots.length := ⟨_, rfl⟩
  rw [← hne, ← hnr]
  have HB1 := Lib.hid hB1
  clear hB1 hraw hne hnr
  go_wp2_with fail
  refine (H2.out _).mono ?_
  rintro e w2 ⟨hB2, rfl⟩
  have hz2 := hB2.size
  simp only [World.size_alloc] at hz2
  have hRa := blk_below (blk_alloc (blk_new w1 (Obj.cells #[Value.slice (some ⟨q1, 0, none⟩) 1 c1, Value.slice a2 ne d2, Value.slice a3 nr d3] 116 (0, 0))) (Obj.cells #[Value.int .i64 0, Value.int .i64 0] 27 (0, 0))) hB2 (by simp; omega)
  have hFa := blk_below (blk_new (w1.alloc (Obj.cells #[Value.slice (some ⟨q1, 0, none⟩) 1 c1, Value.slice a2 ne d2, Value.slice a3 nr d3] 116 (0, 0))) (Obj.cells #[Value.int .i64 0, Value.int .i64 0] 27 (0, 0))) hB2 (by simp)
  rw [World.size_alloc] at hFa
  have m1 := cell_kept (alloc_kept4 (alloc_kept4 k1)) hB2
  have m3 := cell_kept (alloc_kept4 (alloc_kept4 k3)) hB2
  obtain ⟨R, hR⟩ : ∃ R, R = w1.heap.size := ⟨_, rfl⟩
  rw [← hR] at hRa hFa hz2
  have r0 : w2.cell? ⟨R, 0, none⟩ = some (.slice (some ⟨q1, 0, none⟩) 1 c1) := by rw [blk_cell hRa]; rfl
  have f0 : w2.cell? ⟨R + 1, 0, none⟩ = some (.int .i64 0) := by rw [blk_cell hFa]; rfl
  have hBB := Lib.hid (((HB1.out.alloc HB1.out.size _).alloc (by have := HB1.out.size; simp; omega) _).trans (hB2.mono (by have := HB1.out.size; simp; omega)))
  have lR : R + 1 < w2.heap.size := by omega
  have lR0 : R < w2.heap.size := by omega
  have n1 : q1 < w2.heap.size := by omega
  have n2 : q2 < w2.heap.size := by omega
  rw [← hR]
  clear hRa hFa hB2 k1 k2 k3 hR
  go_wp2_with fail
  go_ret
  refine ⟨rfl, ?_⟩
  have hB := hBB.out
  have hz := hB.size
  (repeat' (first | (with_reducible exact Below.refl _ _) | (with_reducible assumption) | (with_reducible refine below_drewN ?_ _) | (with_reducible refine Below.alloc ?_ ?_ _) | (with_reducible refine Below.drew ?_) | (with_reducible refine Below.setCell ?_ ?_ _) | (with_reducible refine Below.trans ?_ (Below.mono (by assumption) ?_)) | go_size))

end Go.Proofs.YtgoaiokpnifhfaaDoor
