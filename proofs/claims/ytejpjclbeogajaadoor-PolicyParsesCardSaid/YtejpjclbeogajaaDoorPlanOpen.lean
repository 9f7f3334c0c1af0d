/-
  A plan that came in, as the row reads it: its parts.
-/
import Derived.Test.YtejpjclbeogajaaDoorPlan
import Derived.Lib.SmallJoins
import Derived.Deep.Slices
import Derived.OpenShut
namespace Go.Proofs.YtejpjclbeogajaaDoor
open Go.RowKit Go.ChangeShapes Go.WideShapes Go.Deep Go.Joins
set_option linter.unusedVariables false
set_option linter.unusedSimpArgs false

set_option maxRecDepth 100000 in
theorem pfield_open {H : Type} {enc : TypeId × Value → H} {w : World} {base n : Nat} {spare : Nat → Bool} {held : Bool} {cs : List Value} {y : DataW H × List MemPlace}
    (h : DataW.trod enc Tryd.prog w base spare held n 90 cs = some y) : ∃ f : PField, f.ok ∧ cs = [.int .u8 f.kind, .int .u8 f.lists, .int .u8 f.ref, .int .u8 f.name, .int .u64 f.df] := by
  obtain ⟨xs, m, _, _, hcl, hxl, hf⟩ := DataW.trod_struct Tryd.underlying90 h
  have hC : Tryd.prog.cellsOf 90 = 5 := by kernel_rfl
  have c8 : Tryd.prog.cellsOf 5 = 1 := by kernel_rfl
  have c64 : Tryd.prog.cellsOf 76 = 1 := by kernel_rfl
  rw [hC] at hcl
  obtain ⟨v0, v1, v2, v3, v4, rfl⟩ : ∃ v0 v1 v2 v3 v4, cs = [v0, v1, v2, v3, v4] := by
    clear hf hxl h
    rcases cs with _ | ⟨a, _ | ⟨b, _ | ⟨c, _ | ⟨d, _ | ⟨e, _ | ⟨f, l⟩⟩⟩⟩⟩⟩
    · cases hcl
    · cases hcl
    · cases hcl
    · cases hcl
    · cases hcl
    · exact ⟨a, b, c, d, e, rfl⟩
    · simp at hcl
  have hx : ∀ i, i < 5 → ∃ z, xs[i]? = some z := fun i hi => ⟨_, List.getElem?_eq_getElem (by rw [hxl]; exact hi)⟩
  obtain ⟨z0, g0⟩ := hx 0 (by omega)
  obtain ⟨z1, g1⟩ := hx 1 (by omega)
  obtain ⟨z2, g2⟩ := hx 2 (by omega)
  obtain ⟨z3, g3⟩ := hx 3 (by omega)
  obtain ⟨z4, g4⟩ := hx 4 (by omega)
  have k0 : DataW.trod enc Tryd.prog w base spare held m 5 (List.take (Tryd.prog.cellsOf 5) [v0, v1, v2, v3, v4]) = some z0 := (hf 0 _ rfl).trans g0
  rw [c8] at k0
  simp only [List.take_succ_cons, List.take_zero] at k0
  have k1 : DataW.trod enc Tryd.prog w base spare held m 5 (List.take (Tryd.prog.cellsOf 5) [v1, v2, v3, v4]) = some z1 := (hf 1 _ rfl).trans g1
  rw [c8] at k1
  simp only [List.take_succ_cons, List.take_zero] at k1
  have k2 : DataW.trod enc Tryd.prog w base spare held m 5 (List.take (Tryd.prog.cellsOf 5) [v2, v3, v4]) = some z2 := (hf 2 _ rfl).trans g2
  rw [c8] at k2
  simp only [List.take_succ_cons, List.take_zero] at k2
  have k3 : DataW.trod enc Tryd.prog w base spare held m 5 (List.take (Tryd.prog.cellsOf 5) [v3, v4]) = some z3 := (hf 3 _ rfl).trans g3
  rw [c8] at k3
  simp only [List.take_succ_cons, List.take_zero] at k3
  have k4 : DataW.trod enc Tryd.prog w base spare held m 76 (List.take (Tryd.prog.cellsOf 76) [v4]) = some z4 := (hf 4 _ rfl).trans g4
  rw [c64] at k4
  simp only [List.take_succ_cons, List.take_zero] at k4
  obtain ⟨n0, e0, _, w0⟩ := DataW.trod_int Tryd.underlying5 k0
  obtain ⟨n1, e1, _, w1⟩ := DataW.trod_int Tryd.underlying5 k1
  obtain ⟨n2, e2, _, w2⟩ := DataW.trod_int Tryd.underlying5 k2
  obtain ⟨n3, e3, _, w3⟩ := DataW.trod_int Tryd.underlying5 k3
  obtain ⟨n4, e4, _, w4⟩ := DataW.trod_int Tryd.underlying76 k4
  have b0 := bounds_u8 w0
  have b1 := bounds_u8 w1
  have b2 := bounds_u8 w2
  have b3 := bounds_u8 w3
  have b4 := bounds_u64 w4
  simp only [List.cons.injEq, and_true] at e0 e1 e2 e3 e4
  subst e0 e1 e2 e3 e4
  exact ⟨⟨n0, n1, n2, n3, n4⟩, ⟨⟨b0.1, Int.lt_add_one_of_le b0.2⟩, ⟨b1.1, Int.lt_add_one_of_le b1.2⟩, ⟨b2.1, Int.lt_add_one_of_le b2.2⟩, ⟨b3.1, Int.lt_add_one_of_le b3.2⟩, b4.1, Int.lt_add_one_of_le b4.2⟩, rfl⟩

set_option maxRecDepth 100000 in
theorem plist_open {H : Type} {enc : TypeId × Value → H} {w : World} {base n : Nat} {spare : Nat → Bool} {held : Bool} {v : Value} {y : DataW H × List MemPlace}
    (h : DataW.trod enc Tryd.prog w base spare held n 88 [v] = some y) : ∃ fs, PListAt w v fs := by
  rcases open_slice Tryd.underlying88 h with ⟨hcs, _⟩ | ⟨a, len, cap, m, n', D, Pl, hcs, hb, hl, hm, hmm, _, hx⟩
  · simp only [List.cons.injEq, and_true] at hcs
    exact ⟨[], none, 0, hcs, by simp, fun h => absurd h (by simp)⟩
  · simp only [List.cons.injEq, and_true] at hcs
    have hC : Tryd.prog.cellsOf 90 = 5 := by kernel_rfl
    rw [hC] at hx
    have hlm : len ≤ m := by rw [hmm]; split <;> omega
    obtain ⟨F, hF⟩ := choose_lt (α := PField) (n := len) (p := fun i f => f.ok ∧ ∀ j, j < 5 → w.cell? ((a.add (i * 5)).add j) = [Value.int .u8 f.kind, .int .u8 f.lists, .int .u8 f.ref, .int .u8 f.name, .int .u64 f.df][j]?) (fun i hi => by
      obtain ⟨cs', h1, h2⟩ := hx i (by omega)
      obtain ⟨f, hok, rfl⟩ := pfield_open h2
      exact ⟨f, hok, (World.cells?_some h1).2.2⟩)
    refine ⟨(List.range len).map F, some a, cap, by simpa using hcs, fun f hf => ?_, fun h0 => ?_⟩
    · obtain ⟨i, hi, rfl⟩ := List.mem_map.1 hf
      exact (hF i (List.mem_range.1 hi)).1
    · have h0' : 0 < len := by simpa using h0
      obtain ⟨b, o, spot⟩ := a
      have hs0 : w.cell? ⟨b, o, spot⟩ = some (.int .u8 (F 0).kind) := by simpa [Addr.add] using (hF 0 h0').2 0 (by omega)
      have hspot : spot = none := by simpa using World.cell?_spot hs0
      subst hspot
      refine ⟨b, o, rfl, World.block_lt_of_cell? w _ hs0, fun i hi => ?_⟩
      have hi' : i < len := by simpa using hi
      have e : pfget ((List.range len).map F) i = F i := by unfold pfget; rw [getElem!_pos _ i hi]; simp
      rw [e]
      have hc := (hF i hi').2
      simp only [Addr.add_lit] at hc
      exact ⟨hc 0 (by omega), hc 1 (by omega), hc 2 (by omega), hc 3 (by omega), hc 4 (by omega)⟩

set_option maxRecDepth 100000 in
theorem plan_open {H : Type} {enc : TypeId × Value → H} {w : World} {r : Reach} {b0 base : Nat} {spare : Nat → Bool} {held : Bool} {v : Value} {d : DataW H} {ps : List MemPlace}
    (hval : Value.okWide Tryd.prog w r b0 25 v) (hd : DataW.Trod enc Tryd.prog w base spare held 25 v d ps) : ∃ p, PlanAt w v p := by
  obtain ⟨v0, v1, v2, v3, y0, y1, y2, y3, n, rfl, _, _, h0, h1, h2, h3⟩ := open_agg4 Tryd.underlying25 (by kernel_rfl) (by kernel_rfl) hval hd
  obtain ⟨en, A, ce, rfl, hen, hE⟩ : ∃ (en : List Int) (A : Option Addr) (ce : Nat), v0 = .slice A en.length ce ∧ (∀ n ∈ en, byteOk n) ∧ (0 < en.length → ∃ b o, A = some ⟨b, o, none⟩ ∧ b < w.heap.size ∧ ∀ i, i < en.length → w.cell? ⟨b, o + i, none⟩ = some (.int .u8 (iget en i))) := by
    rcases open_ints Tryd.underlying22 Tryd.underlying5 (by kernel_rfl) h0 with ⟨hcs, _⟩ | ⟨a, len, cap, zs, hcs, _, hl, hm, hz, _, hcell, hwz⟩
    · simp only [List.cons.injEq, and_true] at hcs
      exact ⟨[], none, 0, hcs, by simp, fun h => absurd h (by simp)⟩
    · simp only [List.cons.injEq, and_true] at hcs
      have hlz : len ≤ zs.length := by rw [hz]; split <;> omega
      have hlt : (zs.take len).length = len := by simp; omega
      refine ⟨zs.take len, some a, cap, by rw [hlt]; exact hcs, fun n hn => ?_, fun h0 => ?_⟩
      · have := bounds_u8 (hwz n (List.mem_of_mem_take hn))
        exact ⟨this.1, by omega⟩
      · rw [hlt] at h0
        obtain ⟨b, o, rfl, hc⟩ := ints_at hcell (by omega)
        refine ⟨b, o, rfl, World.block_lt_of_cell? w _ (hc 0 (by omega)), fun i hi => ?_⟩
        rw [hlt] at hi
        rw [hc i (by omega)]
        unfold iget
        rw [getElem!_pos _ i (by rw [hlt]; exact hi)]
        simp [List.getD, List.getElem?_eq_getElem (show i < zs.length by omega)]
  obtain ⟨ss, B, cs, rfl, hS⟩ : ∃ (ss : List (List PField)) (B : Option Addr) (cs : Nat), v1 = .slice B ss.length cs ∧ (0 < ss.length → ∃ b o, B = some ⟨b, o, none⟩ ∧ b < w.heap.size ∧ ∀ i, i < ss.length → ∃ u, w.cell? ⟨b, o + i, none⟩ = some u ∧ PListAt w u (psget ss i)) := by
    rcases open_slice1 Tryd.underlying23 (by kernel_rfl) h1 with ⟨hcs, _⟩ | ⟨a, len, cap, m, n', V, D, Pl, hcs, _, hl, hm, hmm, _, hx⟩
    · simp only [List.cons.injEq, and_true] at hcs
      exact ⟨[], none, 0, hcs, fun h => absurd h (by simp)⟩
    · simp only [List.cons.injEq, and_true] at hcs
      have hlm : len ≤ m := by rw [hmm]; split <;> omega
      obtain ⟨F, hF⟩ := choose_lt (α := List PField) (n := len) (p := fun i fs => PListAt w (V i) fs) (fun i hi => plist_open (hx i (by omega)).2)
      refine ⟨(List.range len).map F, some a, cap, by simpa using hcs, fun h0 => ?_⟩
      have h0' : 0 < len := by simpa using h0
      obtain ⟨b, o, spot⟩ := a
      have hs0 : w.cell? ⟨b, o, spot⟩ = some (V 0) := by simpa [Addr.add] using (hx 0 (by omega)).1
      have hspot : spot = none := by simpa using World.cell?_spot hs0
      subst hspot
      refine ⟨b, o, rfl, World.block_lt_of_cell? w _ hs0, fun i hi => ?_⟩
      have hi' : i < len := by simpa using hi
      have e : psget ((List.range len).map F) i = F i := by unfold psget; rw [getElem!_pos _ i hi]; simp
      rw [e]
      have hc := (hx i (by omega)).1
      rw [Addr.add_lit] at hc
      exact ⟨_, hc, hF i hi'⟩
  obtain ⟨rt, e2, _, w2⟩ := DataW.trod_int Tryd.underlying5 h2
  obtain ⟨tr, e3, _⟩ := DataW.trod_bool Tryd.underlying4 h3
  simp only [List.cons.injEq, and_true] at e2 e3
  subst e2 e3
  have b2 := bounds_u8 w2
  exact ⟨⟨en, ss, rt, tr⟩, ⟨A, ce, B, cs, rfl, hE, hS⟩, ⟨b2.1, Int.lt_add_one_of_le b2.2⟩, hen⟩

end Go.Proofs.YtejpjclbeogajaaDoor
