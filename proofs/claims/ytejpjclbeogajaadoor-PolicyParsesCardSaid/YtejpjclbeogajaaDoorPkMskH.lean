/-
  Parts: MskH, MskE, PfpathPathFields, MskP, Pfpathsign, PthP, PolK.
-/
import Derived.Test.YtejpjclbeogajaaDoorPkKdP
import Derived.Test.YtejpjclbeogajaaDoorPkEffOne
import Derived.Test.YtejpjclbeogajaaDoorPfKinds

/-
  (*Mask).Has: is a path in a mask?
-/
namespace Go.Proofs.YtejpjclbeogajaaDoor
open Go.RowKit Go.Maps
open Go.Proofs.YtejpjclbeogajaaDoorP
open Go.Proofs.YtejpjclbeogajaaDoorW.PrintWords (Kd)
set_option linter.unusedVariables false
set_option linter.unusedSimpArgs false

/-- a path is in a mask as a whole; as a whole or in part -/
def hasA (W : List (List Int)) (p : List Int) : Bool := W.any fun x => x.isPrefixOf p
def hasS (W : List (List Int)) (p : List Int) : Bool := W.any fun x => x.isPrefixOf p || p.isPrefixOf x
theorem hasA_iff {W : List (List Int)} {p : List Int} : hasA W p = true ↔ ∃ x ∈ W, x <+: p := by simp [hasA, List.any_eq_true]
theorem hasS_iff {W : List (List Int)} {p : List Int} : hasS W p = true ↔ ∃ x ∈ W, x <+: p ∨ p <+: x := by simp [hasS, List.any_eq_true]
theorem ints_at {w : World} {A : Option Addr} {xs : List Int} (h : Kd.C (Kd.int .i64) w A xs.length xs) (hn : 0 < xs.length) : ∃ b o, A = some ⟨b, o, none⟩ ∧ b < w.heap.size ∧ ∀ j, j < xs.length → w.cell? ⟨b, o + j, none⟩ = some (.int .i64 (xs.getD j 0)) := by
  obtain ⟨b, o, e, hb, hc⟩ := C_addr h hn (by decide)
  refine ⟨b, o, e, hb, fun j hj => ?_⟩
  obtain ⟨c, _, hk, hcell⟩ := hc j _ (List.getElem?_eq_getElem hj)
  have hk : c = [.int .i64 xs[j]] := hk
  have := hcell 0 _ (by rw [hk]; rfl)
  rw [show (Kd.int .i64).sz = 1 from rfl, Nat.mul_one, Nat.add_zero] at this
  rw [this, List.getD_eq_getElem?_getD, List.getElem?_eq_getElem hj]; rfl
theorem take_snoc {xs : List Int} {j : Nat} (h : j < xs.length) : xs.take (j + 1) = xs.take j ++ [xs.getD j 0] := by
  rw [List.getD_eq_getElem?_getD, List.getElem?_eq_getElem h, List.take_add_one, List.getElem?_eq_getElem h]; rfl
theorem prefix_take {x p : List Int} {j : Nat} (h : x <+: p) (hj : j ≤ x.length) : p.take j <+: x := by
  obtain ⟨t, rfl⟩ := h
  rw [List.take_append_of_le_length hj]
  exact List.take_prefix _ _

/-- how far Has has come -/
structure HasI (N : NMap) (W : List (List Int)) (p : List Int) (j : Nat) (v : Value) : Prop where
  le : j ≤ p.length
  val : v = ptrV ((N (p.take j)).map Prod.fst)
  no : ∀ x ∈ W, x <+: p → j ≤ x.length
theorem Msk.above {w : World} {n : Nat} {N : NMap} {W : List (List Int)} (h : Msk w n N W) {q x : List Int} (hx : x ∈ W) (hq : q <+: x) : (N q).isSome = true := by
  by_cases e : q = []
  · rw [e]; exact h.root
  · exact (h.dom q e).2 ⟨x, hx, hq⟩
theorem HasI.none {w : World} {n : Nat} {N : NMap} {W : List (List Int)} {p : List Int} {j : Nat} {v : Value} (h : HasI N W p j v) (hM : Msk w n N W) (hn : N (p.take j) = Option.none) : hasA W p = false ∧ hasS W p = false := by
  have key : ∀ x ∈ W, ¬ (x <+: p ∨ p <+: x) := by
    intro x hx hp
    have hs : (N (p.take j)).isSome = true := by
      refine hM.above hx ?_
      rcases hp with hp | hp
      · exact prefix_take hp (h.no x hx hp)
      · exact (List.take_prefix j p).trans hp
    rw [hn] at hs; cases hs
  constructor
  · rw [Bool.eq_false_iff]; exact fun e => by obtain ⟨x, hx, hp⟩ := hasA_iff.1 e; exact key x hx (.inl hp)
  · rw [Bool.eq_false_iff]; exact fun e => by obtain ⟨x, hx, hp⟩ := hasS_iff.1 e; exact key x hx hp
theorem HasI.hit {N : NMap} {W : List (List Int)} {p : List Int} {j : Nat} {v : Value} (h : HasI N W p j v) (hm : p.take j ∈ W) : hasA W p = true ∧ hasS W p = true :=
  ⟨hasA_iff.2 ⟨_, hm, List.take_prefix _ _⟩, hasS_iff.2 ⟨_, hm, .inl (List.take_prefix _ _)⟩⟩
theorem HasI.next {N : NMap} {W : List (List Int)} {p : List Int} {j : Nat} {v : Value} (h : HasI N W p j v) (hj : j < p.length) (hm : p.take j ∉ W) : HasI N W p (j + 1) (ptrV ((N (p.take j ++ [p.getD j 0])).map Prod.fst)) := by
  refine ⟨hj, by rw [take_snoc hj], fun x hx hp => ?_⟩
  have h1 := h.no x hx hp
  by_cases e : j = x.length
  · exfalso
    have : p.take j = x := by
      obtain ⟨t, rfl⟩ := hp
      rw [e, List.take_left']
      rfl
    exact hm (this ▸ hx)
  · omega
theorem HasI.end {w : World} {n : Nat} {N : NMap} {W : List (List Int)} {p : List Int} {v : Value} (h : HasI N W p p.length v) (hM : Msk w n N W) {b m : Nat} (hs : N p = some (b, m)) (hm : p ∉ W) : hasA W p = false ∧ (hasS W p = true ↔ ∃ i, (Lit.int .i64 i).wf = true ∧ ((N (p ++ [i])).map Prod.fst).isSome = true) := by
  constructor
  · rw [Bool.eq_false_iff]
    intro e
    obtain ⟨x, hx, hp⟩ := hasA_iff.1 e
    have h1 := h.no x hx hp
    have : x = p := by
      obtain ⟨t, rfl⟩ := hp
      rw [List.length_append] at h1
      have : t = [] := List.length_eq_zero_iff.1 (by omega)
      rw [this]; simp
    exact hm (this ▸ hx)
  · rw [hasS_iff]
    constructor
    · rintro ⟨x, hx, hp⟩
      have hpx : p <+: x := by
        rcases hp with hp | hp
        · have h1 := h.no x hx hp
          obtain ⟨t, rfl⟩ := hp
          rw [List.length_append] at h1
          have : t = [] := List.length_eq_zero_iff.1 (by omega)
          rw [this]; simp
        · exact hp
      obtain ⟨t, rfl⟩ := hpx
      cases t with
      | nil => rw [List.append_nil] at hx; exact absurd hx hm
      | cons i t =>
        refine ⟨i, hM.wf _ hx i (by simp), ?_⟩
        rw [Option.isSome_map]
        exact hM.above hx ⟨t, by simp⟩
    · rintro ⟨i, _, hi⟩
      rw [Option.isSome_map] at hi
      obtain ⟨x, hx, hp⟩ := (hM.dom (p ++ [i]) (by simp)).1 hi
      exact ⟨x, hx, .inr ((List.prefix_append p [i]).trans hp)⟩

set_option maxHeartbeats 4000000 in
set_option maxRecDepth 100000 in
theorem has_calls (w : World) (n : Nat) (N : NMap) (W : List (List Int)) (b m : Nat) (hM : Msk w n N W) (hn : n ≤ 100000) (hr : N [] = some (b, m)) (A : Option Addr) (c : Nat) (p : List Int) (hp : Kd.C (Kd.int .i64) w A p.length p) (hpw : ∀ i ∈ p, (Lit.int .i64 i).wf = true) :
    Calls Tryd.prog 47 #[.pointer (some ⟨b, 0, none⟩), .slice A p.length c] w fun e w' => e = .returned (.tuple #[.bool (hasA W p), .bool (hasS W p)]) ∧ Below w.heap.size w w' := by
  have hmx := hp.2.1
  have HM := Lib.hid hM
  have HN := Lib.hid hn
  have HP := Lib.hid hp
  have HPW := Lib.hid hpw
  have hI0 : HasI N W p 0 (.pointer (some ⟨b, 0, none⟩)) := ⟨Nat.zero_le _, by rw [List.take_zero, hr]; rfl, fun _ _ _ => Nat.zero_le _⟩
  have HI0 := Lib.hid hI0
  have HMX := Lib.hid hmx
  clear hM hn hp hpw hI0 hr hmx
  go_enter Tryd.func47, Tryd.ntmps47
  go_wp2_with fail
  go_loopw [0, 7, 10] (fun v0 v7 v10 wr => ∃ j : Nat, v10 = .int .i64 (j : Int) ∧ wr = w ∧ Hid (HasI N W p j v0)) (fun _ _ v10 _ => p.length - (intOf v10).toNat)
  case atStart => exact ⟨0, rfl, rfl, HI0.out⟩
  case round =>
    obtain ⟨j, rfl, rfl, HI⟩ := hrel
    rename Value => v0
    have hle := HI.out.le
    have hmI : (p.length : Int) ≤ 9223372036854775807 := by have := HMX.out; omega
    have hv0 := HI.out.val
    by_cases hj : j < p.length
    · have hjI : (j : Int) < (p.length : Int) := by omega
      have HJ := Lib.hid hj
      obtain ⟨pb, po, rfl, lp, hpc⟩ := ints_at HP.out (by omega)
      have x0 := hpc j hj
      cases hN : N (p.take j) with
      | none =>
        rw [hN] at hv0
        rw [show ptrV (Option.map Prod.fst (none : Option (Nat × Nat))) = .pointer none from rfl] at hv0
        subst hv0
        have HD := Lib.hid (HI.out.none HM.out hN)
        clear hpc hN hle hj
        go_wp2_with fail
        refine bodyPost_ret (v := .tuple #[.bool false, .bool false]) (by simp [results, Tryd.results47, go_sem, *]) rfl ⟨by rw [HD.out.1, HD.out.2], Below.refl _ _⟩
      | some x =>
        obtain ⟨kb, km⟩ := x
        rw [hN] at hv0
        rw [show ptrV (Option.map Prod.fst (some (kb, km))) = .pointer (some ⟨kb, 0, none⟩) from rfl] at hv0
        subst hv0
        have bK := HM.out.cell _ kb km hN
        have lk := blk_lt bK
        have k1 : wr.cell? ⟨kb, 1, none⟩ = some (.map (some km)) := by rw [blk_cell bK]; rfl
        by_cases hw : p.take j ∈ W
        · have k0 : wr.cell? ⟨kb, 0, none⟩ = some (.bool true) := by rw [blk_cell bK, decide_eq_true hw]; rfl
          have HD := Lib.hid (HI.out.hit hw)
          clear hpc hN bK hw hle hj
          go_wp2_with fail
          refine bodyPost_ret (v := .tuple #[.bool true, .bool true]) (by simp [results, Tryd.results47, go_sem, *]) rfl ⟨by rw [HD.out.1, HD.out.2], Below.refl _ _⟩
        · have k0 : wr.cell? ⟨kb, 0, none⟩ = some (.bool false) := by rw [blk_cell bK, decide_eq_false hw]; rfl
          have hwf : (Lit.int .i64 (p.getD j 0)).wf = true := HPW.out _ (by rw [List.getD_eq_getElem?_getD, List.getElem?_eq_getElem hj]; exact List.getElem_mem hj)
          have hlk := (HM.out.kids _ kb km hN).look hwf
          have lm := (HM.out.kids _ kb km hN).lt
          have HX := Lib.hid (HI.out.next hj hw)
          obtain ⟨v1, hv1⟩ : ∃ v1, v1 = ptrV ((N (p.take j ++ [p.getD j 0])).map Prod.fst) := ⟨_, rfl⟩
          rw [← hv1] at hlk HX
          obtain ⟨y, hy⟩ : ∃ y, y = p.getD j 0 := ⟨_, rfl⟩
          rw [← hy] at hlk x0
          have hw64 : wrap64 ((j : Int) + 1) = ((j + 1 : Nat) : Int) := IntWalk.wrap64_in _ (by omega)
          clear hpc hN bK hw hwf hle hv1 hj hy
          go_wp2_with fail
          go_roundw
          case rel => exact ⟨j + 1, by go_num, trivial, HX.out⟩
          case measure => have := HJ.out; simp [intOf]; omega
    · obtain rfl : j = p.length := by omega
      rw [List.take_length] at hv0
      cases hN : N p with
      | none =>
        rw [hN] at hv0
        rw [show ptrV (Option.map Prod.fst (none : Option (Nat × Nat))) = .pointer none from rfl] at hv0
        subst hv0
        have HD := Lib.hid (HI.out.none HM.out (by rw [List.take_length]; exact hN))
        clear hN hle hj
        go_upto_region 8 with (fail)
        go_quiet (fail)
        go_wp2_with fail
        refine bodyPost_ret (v := .tuple #[.bool false, .bool false]) (by simp [results, Tryd.results47, go_sem, *]) rfl ⟨by rw [HD.out.1, HD.out.2], below_drewN (Below.refl _ _) _⟩
      | some x =>
        obtain ⟨kb, km⟩ := x
        rw [hN] at hv0
        rw [show ptrV (Option.map Prod.fst (some (kb, km))) = .pointer (some ⟨kb, 0, none⟩) from rfl] at hv0
        subst hv0
        have bK := HM.out.cell _ kb km hN
        have lk := blk_lt bK
        have k1 : wr.cell? ⟨kb, 1, none⟩ = some (.map (some km)) := by rw [blk_cell bK]; rfl
        by_cases hw : p ∈ W
        · have k0 : wr.cell? ⟨kb, 0, none⟩ = some (.bool true) := by rw [blk_cell bK, decide_eq_true hw]; rfl
          have HD := Lib.hid (HI.out.hit (by rw [List.take_length]; exact hw))
          clear hN bK hw hle hj
          go_upto_region 8 with (fail)
          go_quiet (fail)
          go_wp2_with fail
          refine bodyPost_ret (v := .tuple #[.bool true, .bool true]) (by simp [results, Tryd.results47, go_sem, *]) rfl ⟨by rw [HD.out.1, HD.out.2], below_drewN (Below.refl _ _) _⟩
        · have k0 : wr.cell? ⟨kb, 0, none⟩ = some (.bool false) := by rw [blk_cell bK, decide_eq_false hw]; rfl
          obtain ⟨sz, hsz, hszn, hszi⟩ := (HM.out.kids _ kb km hN).sizeAny
          have hd := HI.out.end HM.out hN hw
          have hs : hasS W p = decide (0 < sz) := by
            rw [Bool.eq_iff_iff, decide_eq_true_eq, hd.2, hszi]
          have HD := Lib.hid (And.intro hd.1 hs)
          have lm := (HM.out.kids _ kb km hN).lt
          have hszI : (sz : Int) ≤ 100000 := by have := HN.out; omega
          have hdd : decide ((0 : Int) < (sz : Int)) = decide (0 < sz) := decide_eq_decide.2 (by omega)
          obtain ⟨bb, hbb⟩ : ∃ bb, bb = decide (0 < sz) := ⟨_, rfl⟩
          rw [← hbb] at HD hdd
          have hdn : decide (0 < sz) = bb := hbb.symm
          clear hN bK hw hle hj hd hs hszi hszn hbb
          go_upto_region 8 with (fail)
          have hS0 : ∀ b : Nat, ¬ (fun _ : Nat => False) b := fun _ h => h
          refine wp_region_one 20 (.int .i64 (sz : Int)) (fun _ => False) (fun w' => w' = wr.drewN 1) ?af (by as_aux_lemma => kernel_rfl) (by as_aux_lemma => kernel_rfl) (fun w' h => by rw [h]; exact Turn.of_below (below_drewN (Below.refl _ _) 1) _) ?hwalk (by as_aux_lemma => kernel_rfl) ?hs (by as_aux_lemma => kernel_rfl) ?hend
          case hwalk =>
            simp only [effL, List.lookup, Nat.reduceBEq, Nat.reduceAdd]
            have hX := TurnOf.cell wr (fun _ => False)
            (repeat (go_big_quiet_step (fail)))
            refine wpQuiet_nil ?_
            rfl
          case hs =>
            refine ⟨_, rfl, .inr ⟨15, false, 48, rfl, rfl, (by as_aux_lemma => kernel_rfl), rfl⟩, [52], (by as_aux_lemma => kernel_rfl), fun a K Q' hT hK => ?_⟩
            have e52 : a.tmps[52]?.getD undef = .map (some km) := by rw [← Array.getD_eq_getD_getElem?]; exact hT 52 (by simp)
            refine eff_val _ (w' := wr.drewN 1) ?_ (hK _ rfl)
            have hszd : (Builtin.len_ #[154] 3 #[.map (some km)]).run Tryd.prog (wr.drewN 1) = .ok (.int .i64 (sz : Int)) (wr.drewN 1) := hsz (wr.drewN 1) (fun _ _ => rfl)
            go_simp
          intro w9 hw9
          have HB9 := Lib.hid (show Below wr.heap.size wr w9 by rw [hw9]; exact below_drewN (Below.refl _ _) 1)
          clear hw9
          go_wp2_with fail
          refine bodyPost_ret (v := .tuple #[.bool false, .bool bb]) (by simp [results, Tryd.results47, go_sem, *]) rfl ⟨by rw [HD.out.1, HD.out.2], HB9.out⟩

end Go.Proofs.YtejpjclbeogajaaDoor

/-
  (*Mask).Meets: is one of another mask's paths in a mask as a whole?
-/
namespace Go.Proofs.YtejpjclbeogajaaDoor
open Go.RowKit Go.Maps
set_option linter.unusedVariables false
set_option linter.unusedSimpArgs false

/-- a way that is not empty begins one of the other's -/
def meetN (W W2 : List (List Int)) : Bool := W2.any fun y => W.any fun x => !x.isEmpty && x.isPrefixOf y
theorem meetN_iff {W W2 : List (List Int)} : meetN W W2 = true ↔ ∃ y ∈ W2, ∃ x ∈ W, x ≠ [] ∧ x <+: y := by
  simp [meetN, List.any_eq_true]
/-- .. at a field -/
def meetK (N : NMap) (W W2 : List (List Int)) (i : Int) : Bool := (N [i]).isSome && (decide ([i] ∈ W) || meetN (under i W) (under i W2))
theorem meetN_keys {w w2 : World} {n n2 : Nat} {N N2 : NMap} {W W2 : List (List Int)} (h : Msk w n N W) (h2 : Msk w2 n2 N2 W2) : meetN W W2 = true ↔ ∃ i, (Lit.int .i64 i).wf = true ∧ (N2 [i]).isSome = true ∧ meetK N W W2 i = true := by
  rw [meetN_iff]
  constructor
  · rintro ⟨y, hy, x, hx, hne, hp⟩
    cases x with
    | nil => exact absurd rfl hne
    | cons i x =>
      obtain ⟨r, rfl, hr⟩ := cons_prefix hp
      refine ⟨i, h.wf _ hx i (by simp), h2.above hy ⟨r, rfl⟩, ?_⟩
      unfold meetK
      rw [Bool.and_eq_true, Bool.or_eq_true, decide_eq_true_eq]
      refine ⟨h.above hx ⟨x, rfl⟩, ?_⟩
      cases x with
      | nil => exact .inl hx
      | cons j x => exact .inr (meetN_iff.2 ⟨r, mem_under.2 hy, j :: x, mem_under.2 hx, by simp, hr⟩)
  · rintro ⟨i, _, hi2, hk⟩
    unfold meetK at hk
    rw [Bool.and_eq_true, Bool.or_eq_true, decide_eq_true_eq] at hk
    rcases hk.2 with hm | hm
    · obtain ⟨y, hy, hp⟩ := (h2.dom [i] (by simp)).1 hi2
      exact ⟨y, hy, [i], hm, by simp, hp⟩
    · obtain ⟨y, hy, x, hx, hne, hp⟩ := meetN_iff.1 hm
      exact ⟨i :: y, mem_under.1 hy, i :: x, mem_under.1 hx, by simp, by
        obtain ⟨t, rfl⟩ := hp
        exact ⟨t, rfl⟩⟩
theorem grownNone {w w' : World} (h : Below w.heap.size w w') : w.grownBy w' none := ⟨h.os, h.tape, h.output, h.size, fun i hi _ => h.block i hi⟩
theorem ptrR_inv2 (v : Value) (y : DataW Unit × List MemPlace) (h : ptrR v = some y) : ∃ c, v = ptrV c := by
  obtain ⟨o, e, _⟩ := ptrR_inv h; exact ⟨o, e⟩
theorem intK_inv (key : Value) (kl : Lit) (h : keyOf Tryd.prog 3 key = some kl) : ∃ x, key = Value.int .i64 x := by
  obtain ⟨x, e, _⟩ := Maps.keyOf_int_inv Tryd.underlying3 h; exact ⟨x, e⟩

/-- what has been looked at meets nothing -/
def left0Ok (D2 : DataW Unit) (N2 : NMap) (left : Lit → Bool) (N : NMap) (W W2 : List (List Int)) : Prop := ∀ i, (Lit.int .i64 i).wf = true → left (.int .i64 i) = false → (N2 [i]).isSome = true → meetK N W W2 i = false
theorem left0Ok_step {D2 : DataW Unit} {N2 : NMap} {left : Lit → Bool} {N : NMap} {W W2 : List (List Int)} {x : Int} (h : left0Ok D2 N2 left N W W2) (hx : meetK N W W2 x = false) : left0Ok D2 N2 (fun z => left z && !z.sameKey (.int .i64 x)) N W W2 := by
  intro i hi hl hs
  by_cases e : i = x
  · subst e; exact hx
  · refine h i hi ?_ hs
    have hne : (Lit.int .i64 i).sameKey (.int .i64 x) = false := Go.Maps.sameKey_ne (fun e2 => e (by simpa using e2))
    simpa [hne] using hl
set_option maxHeartbeats 4000000 in
set_option maxRecDepth 100000 in
theorem meets_calls : ∀ (d : Nat) (w : World) (n n2 : Nat) (N N2 : NMap) (W W2 : List (List Int)) (b m b2 m2 : Nat), (∀ y ∈ W2, y.length ≤ d) → Msk w n N W → Msk w n2 N2 W2 → N [] = some (b, m) → N2 [] = some (b2, m2) →
    Calls Tryd.prog 50 #[.pointer (some ⟨b, 0, none⟩), .pointer (some ⟨b2, 0, none⟩)] w fun e w' => e = .returned (.bool (meetN W W2)) ∧ Below w.heap.size w w' := by
  intro d
  induction d using Nat.strongRecOn with
  | _ d ih =>
    intro w n n2 N N2 W W2 b m b2 m2 hd hM hM2 hr hr2
    have hkeys := meetN_keys hM hM2
    have bK := hM.cell [] b m hr
    have bK2 := hM2.cell [] b2 m2 hr2
    have lb := blk_lt bK
    have lb2 := blk_lt bK2
    have k1 : w.cell? ⟨b2, 1, none⟩ = some (.map (some m2)) := by rw [blk_cell bK2]; rfl
    obtain ⟨D2, hD2, hD2k⟩ := (hM2.kids [] b2 m2 hr2).out
    have HD := Lib.hid hd
    have HM := Lib.hid hM
    have HM2 := Lib.hid hM2
    have HR := Lib.hid hr
    have HR2 := Lib.hid hr2
    have HK := Lib.hid hkeys
    have HBK := Lib.hid bK
    have HDK := Lib.hid hD2k
    have HIH := Lib.hid ih
    have HD2 := Lib.hid hD2
    clear hd hM hM2 hkeys bK bK2 hD2k ih hr hr2 hD2
    generalize meetN W W2 = OUT at *
    go_enter Tryd.func50, Tryd.ntmps50
    go_wp2_with (first | (at_range; refine wpList_range_own _ rfl _ 154 rfl 3 68 intKeyed Tryd.underlying154 _ m2 n2 _ rfl HD2.out ?_; intro w0 hrg0 hg0 hs0) | go_in)
    go_frame
    obtain ⟨r, hre⟩ : ∃ r, r = w.heap.size := ⟨_, rfl⟩
    rw [← hre] at hrg0 ⊢
    have hle0 : left0Ok D2 N2 (has D2) N W W2 := fun i hi hl hs => by rw [(HDK.out i hi).2, Option.isSome_map, show (N2 ([] ++ [i])).isSome = true from hs] at hl; cases hl
    have HLE := Lib.hid hle0
    have HRE := Lib.hid (show w.heap.size ≤ r by omega)
    have HB0 := Lib.hid (show Below w.heap.size w w0 from ⟨hg0.os, hg0.tape, hg0.output, hg0.size, fun k hk => hg0.block k hk (by simp)⟩)
    clear hle0 hre hg0 hs0 k1 lb lb2
    go_loopw [5, 6, 7] (fun _ _ _ wr => ∃ (left : Lit → Bool) (cnt : Nat), wr.ranges Tryd.prog 3 ptrR m2 r n2 D2 left cnt ∧ Hid (Below w.heap.size w wr) ∧ Hid (left0Ok D2 N2 left N W W2)) (fun _ _ _ wr => wr.rangeLeft m2 r)
    case atStart => exact ⟨_, _, hrg0, HB0.out, HLE.out⟩
    case round =>
      clear hrg0
      obtain ⟨left, cnt, hrg, HBr, HL⟩ := hrel
      rename World => wr
      go_wp2_with (first | (at_next; refine wpList_next_ranges _ rfl _ rfl 3 intKeyed ptrR (Value.int .i64) ptrV intK_inv ptrR_inv2 m2 r n2 _ _ _ rfl hrg ?_ ?_) | go_in)
      · intro _ hl0
        have hout : OUT = false := by
          rw [Bool.eq_false_iff]
          intro e
          obtain ⟨i, hi, hi2, hk⟩ := HK.out.1 e
          rw [HL.out i hi (hl0 _) hi2] at hk
          cases hk
        subst hout
        clear hl0 hrg
        go_wp2_with fail
        go_ret
        exact ⟨rfl, HBr.out⟩
      · intro x c kl y y2 w1 cnt1 hkx hlx hRc hat hrg1 hlt hg1 hs1 hen
        obtain ⟨x', hx', rfl, hwf⟩ := Maps.keyOf_int_inv Tryd.underlying3 hkx
        obtain rfl : x = x' := by injection hx'
        obtain ⟨k2b, k2m, hN2⟩ : ∃ k2b k2m, N2 [x] = some (k2b, k2m) := by
          have h1 := (HDK.out x hwf).2
          rw [Maps.has_true_of_atKey hat, Option.isSome_map] at h1
          have h1 : (N2 [x]).isSome = true := h1.symm
          cases h2 : N2 [x] with
          | none => rw [h2] at h1; cases h1
          | some z => exact ⟨z.1, z.2, rfl⟩
        obtain rfl : c = some k2b := by
          have h1 := (HDK.out x hwf).1
          rw [hat] at h1
          have h2 := ptrR_mk c
          rw [hRc] at h2
          have h3 := (Prod.mk.inj (Option.some.inj h2)).1
          rw [h3] at h1
          simp only [DataW.lit.injEq, Lit.int.injEq, true_and] at h1
          have h4 := encB_inj h1
          rw [h4, show (N2 ([] ++ [x])) = N2 [x] from rfl, hN2]; rfl
        rw [show ptrV (some k2b) = .pointer (some ⟨k2b, 0, none⟩) from rfl] at hen ⊢
        have HB1 := Lib.hid (show Below w.heap.size w w1 from HBr.out.trans ⟨hg1.os, hg1.tape, hg1.output, hg1.size, fun k hk => hg1.block k (Nat.lt_of_lt_of_le hk HBr.out.size) (fun e => by have := HRE.out; have := Option.some.inj e; omega)⟩)
        have HM1 := Lib.hid (HM.out.below HB1.out)
        have HM21 := Lib.hid (HM2.out.below HB1.out)
        have bK1 := HM1.out.cell [] b m HR.out
        have lb1 := blk_lt bK1
        have k1 : w1.cell? ⟨b, 1, none⟩ = some (.map (some m)) := by rw [blk_cell bK1]; rfl
        have hlk : (Instr.lookup 154 (.map (some m)) (.int .i64 x) false).run Tryd.prog w1 = .ok (ptrV ((N [x]).map Prod.fst)) w1 := (HM1.out.kids [] b m HR.out).look hwf
        have lm1 := (HM1.out.kids [] b m HR.out).lt
        have HWF := Lib.hid hwf
        have HRG := Lib.hid hrg
        have HRG1 := Lib.hid hrg1
        have HLT := Lib.hid hlt
        clear hkx hlx hRc hat bK1 hwf hrg hrg1 hlt hg1 hs1 hx'
        cases hN : N [x] with
        | none =>
          rw [hN] at hlk
          rw [show ptrV (Option.map Prod.fst (none : Option (Nat × Nat))) = .pointer none from rfl] at hlk
          have HX := Lib.hid (show meetK N W W2 x = false by unfold meetK; rw [hN]; rfl)
          clear hN hN2
          go_wp2_with fail
          go_roundw
          case rel => exact ⟨_, cnt1, HRG1.out, HB1.out, left0Ok_step HL.out HX.out⟩
          case measure => rw [HRG1.out.left_eq, HRG.out.left_eq]; exact HLT.out
        | some z =>
          obtain ⟨kb, km⟩ := z
          rw [hN] at hlk
          rw [show ptrV (Option.map Prod.fst (some (kb, km))) = .pointer (some ⟨kb, 0, none⟩) from rfl] at hlk
          have bKK := HM1.out.cell [x] kb km hN
          have lkk := blk_lt bKK
          by_cases hw : [x] ∈ W
          · have k0 : w1.cell? ⟨kb, 0, none⟩ = some (.bool true) := by rw [blk_cell bKK, decide_eq_true hw]; rfl
            have hout : OUT = true := HK.out.2 ⟨x, HWF.out, by rw [hN2]; rfl, by unfold meetK; rw [hN, decide_eq_true hw]; rfl⟩
            subst hout
            clear hN hN2 bKK hw
            go_wp2_with fail
            go_ret
            exact ⟨rfl, HB1.out⟩
          · have k0 : w1.cell? ⟨kb, 0, none⟩ = some (.bool false) := by rw [blk_cell bKK, decide_eq_false hw]; rfl
            have hd1 : 1 ≤ d := by
              obtain ⟨y, hy, hp⟩ := (HM2.out.dom [x] (by simp)).1 (by rw [hN2]; rfl)
              have h1 := HD.out y hy
              have h2 := hp.length_le
              simp only [List.length_cons, List.length_nil] at h2
              omega
            have hcl := HIH.out (d - 1) (by omega) w1 n n2 (kidN N x) (kidN N2 x) (under x W) (under x W2) kb km k2b k2m (fun y hy => by have := HD.out _ (mem_under.1 hy); simp only [List.length_cons] at this; omega) (HM1.out.kid (by rw [hN]; rfl)) (HM21.out.kid (by rw [hN2]; rfl)) hN hN2
            have hmk : meetK N W W2 x = meetN (under x W) (under x W2) := by unfold meetK; rw [hN, decide_eq_false hw, Bool.false_or]; rfl
            cases hmn : meetN (under x W) (under x W2) with
            | true =>
              rw [hmn] at hcl hmk
              have hout : OUT = true := HK.out.2 ⟨x, HWF.out, by rw [hN2]; rfl, hmk⟩
              have HCL := Lib.hid hcl
              subst hout
              clear hN hN2 bKK hw hcl hmk hmn hd1
              go_wp2_with fail
              refine HCL.out.mono ?_
              rintro e w2 ⟨rfl, hB2⟩
              have HB2 := Lib.hid (HB1.out.trans (hB2.mono HB1.out.size))
              clear hB2
              go_wp2_with fail
              go_ret
              exact ⟨rfl, HB2.out⟩
            | false =>
              rw [hmn] at hcl hmk
              have HCL := Lib.hid hcl
              have HX := Lib.hid hmk
              clear hN hN2 bKK hw hcl hmk hmn hd1
              go_wp2_with fail
              refine HCL.out.mono ?_
              rintro e w2 ⟨rfl, hB2⟩
              have HB2 := Lib.hid (HB1.out.trans (hB2.mono HB1.out.size))
              have HRG2 := Lib.hid (HRG1.out.kept (grownNone hB2) (by simp) (by simp))
              clear hB2
              go_wp2_with fail
              go_roundw
              case rel => exact ⟨_, cnt1, HRG2.out, HB2.out, left0Ok_step HL.out HX.out⟩
              case measure => rw [HRG2.out.left_eq, HRG.out.left_eq]; exact HLT.out

end Go.Proofs.YtejpjclbeogajaaDoor

-- laid by a program (wip/printf.sh): functions of the program as plain Lean functions, with their contracts
namespace Go.Proofs.YtejpjclbeogajaaDoorP.Pf
open Go.RowKit Go.Proofs.YtejpjclbeogajaaDoorW.PrintWords Go.Proofs.YtejpjclbeogajaaDoorW.PrintLast Go.Proofs.YtejpjclbeogajaaDoor.PwG
set_option linter.unusedVariables false
set_option linter.unusedSimpArgs false

/-! ### path_Path_Fields: function 48 -/
def path_Path_Fields.l0 : Nat → List Int → List (S160) → Int → Int → Option (List Int)
  | 0, _, _, _, _ => none
  | k + 1, x3, x7, x8, x9 => if x9 < x8 then (if 0 ≤ x9 then (if x9 < (x7.length : Int) then (if ((rd_T160 x7 x9).f1 = true) then (path_Path_Fields.l0 k x3 x7 x8 (wrap64 (x9 + 1))) else (if x3.length < 17592186044416 then (path_Path_Fields.l0 k (x3 ++ [(rd_T160 x7 x9).f0]) x7 x8 (wrap64 (x9 + 1))) else (none))) else (none)) else (none)) else (some x3)
def path_Path_Fields.f (k : Nat) (l0_0 : List (S160)) (a0_1 : Int) (a0_2 : Int) (a0_3 : Int) : Option (List Int) := path_Path_Fields.l0 k ([] : List Int) l0_0 (l0_0.length : Int) 0
theorem path_Path_Fields.mono_l : ∀ k, (∀ y0 y1 y2 y3, LeO (path_Path_Fields.l0 k y0 y1 y2 y3) (path_Path_Fields.l0 (k + 1) y0 y1 y2 y3))
  | 0 => fun _ _ _ _ r h => by simp [path_Path_Fields.l0] at h
  | k + 1 => by
    have ih0 := path_Path_Fields.mono_l k
    · intro y0 y1 y2 y3
      unfold path_Path_Fields.l0
      repeat' first
      | (with_reducible exact ih0 _ _ _ _)
      | (with_reducible exact LeO.refl _)
      | (with_reducible exact LeO.none _)
      | (with_reducible refine LeO.ite ?_ ?_)
      | (with_reducible refine LeO.bind ?_ (fun _ => ?_))
      | exact ih0 _ _ _ _
      | exact LeO.none _
      | refine LeO.ite ?_ ?_
      | refine LeO.bind ?_ (fun _ => ?_)
theorem path_Path_Fields.mono : ∀ a0 a1 a2 a3 k, LeO (path_Path_Fields.f k a0 a1 a2 a3) (path_Path_Fields.f (k + 1) a0 a1 a2 a3) := by
  intro a0 a1 a2 a3 k
  have ih0 := path_Path_Fields.mono_l k
  unfold path_Path_Fields.f
  repeat' first
      | (with_reducible exact ih0 _ _ _ _)
      | (with_reducible exact LeO.refl _)
      | (with_reducible exact LeO.none _)
      | (with_reducible refine LeO.ite ?_ ?_)
      | (with_reducible refine LeO.bind ?_ (fun _ => ?_))
      | exact ih0 _ _ _ _
      | exact LeO.none _
      | refine LeO.ite ?_ ?_
      | refine LeO.bind ?_ (fun _ => ?_)
set_option maxHeartbeats 8000000 in
set_option maxRecDepth 100000 in
theorem path_Path_Fields.calls (k : Nat) (A0_0 : Option Addr) (c0_0 : Nat) (l0_0 : List (S160)) (a0_1 : Int) (a0_2 : Int) (a0_3 : Int) (r : List Int) (w : World) (hr0_0 : Kd.C k160 w A0_0 l0_0.length l0_0) (hc0_0 : l0_0.length ≤ c0_0) (h : path_Path_Fields.f k l0_0 a0_1 a0_2 a0_3 = some r) :
    Calls Tryd.prog 48 #[.agg #[.slice A0_0 l0_0.length c0_0, .int .u8 a0_1, .int .i64 a0_2, .int .i64 a0_3]] w fun e w' => ∃ v0_ : Value, e = .returned (v0_) ∧ Kd.R (Kd.int .i64) 3 w' w.heap.size (fun _ => True) v0_ r ∧ Below w.heap.size w w' := by
  have hu54 := Tryd.underlying54
  have hu160 := Tryd.underlying160
  have HR0_0 := Aside0.mk hr0_0
  have HC0_0 := Aside0.mk hc0_0
  clear hr0_0 hc0_0
  have HB := Aside0.mk (Below.refl w.heap.size w)
  have H : (path_Path_Fields.l0 k ([] : List Int) l0_0 (l0_0.length : Int) 0) = some r := h
  clear h
  have H' := Aside0.mk H
  clear H
  go_enter Tryd.func48, Tryd.ntmps48
  go_wp2_with (first | ((with_reducible refine gate_dst (N := 1) rfl ?_); refine box_event ?hg (N := 1) ?hd (cs := #[.slice A0_0 l0_0.length c0_0, .int .u8 a0_1, .int .i64 a0_2, .int .i64 a0_3]) (t := 54) ?hr ?_; (case hd => rfl); (case hg => rfl); (case hr => first | (go_simp; done) | (go_simp; rfl)); intro gb245 hg w2 hbox hb; have n0_ := Aside0.mk (below_step (by repeat (first | (with_reducible first | exact HB.out | apply below_alloc | apply pw_below_drewN | apply below_drew1) | exact HB.out)) hb); have n1_ := Aside0.mk (hbox); have n2_ := Aside0.mk ((by rw [hg]; exact (below_size (by repeat (first | (with_reducible first | exact HB.out | apply below_alloc | apply pw_below_drewN | apply below_drew1) | exact HB.out))) : w.heap.size ≤ gb245)); have n3_ := Aside0.mk ((by rw [hg]; exact (below_size (by repeat (first | (with_reducible first | exact HB.out | apply below_alloc | apply pw_below_drewN | apply below_drew1) | exact HB.out))) : w.heap.size ≤ gb245)); clear HB; have HB := n0_; have BK245 := n1_; have GW245 := n2_; have GE245 := n3_; clear n0_ n1_ n2_ n3_; clear hb hbox hg; have hcz3_0 : w2.cell? ⟨gb245, 0, none⟩ = some (.slice A0_0 l0_0.length c0_0) := (blk_cell BK245.out 0).trans rfl; have hcz3_1 : w2.cell? ⟨gb245, 1, none⟩ = some (.int .u8 a0_1) := (blk_cell BK245.out 1).trans rfl; have hcz3_2 : w2.cell? ⟨gb245, 2, none⟩ = some (.int .i64 a0_2) := (blk_cell BK245.out 2).trans rfl; have hcz3_3 : w2.cell? ⟨gb245, 3, none⟩ = some (.int .i64 a0_3) := (blk_cell BK245.out 3).trans rfl; have hfz3_0 := blk_frozen BK245.out 0; have hfz3_1 := blk_frozen BK245.out 1; have hfz3_2 := blk_frozen BK245.out 2; have hfz3_3 := blk_frozen BK245.out 3))
  go_loopg [3, 9] k (fun kq v3 v9 w' => ∃ (x3_1 : List Int) (x9_1 : Int), v9 = .int .i64 x9_1 ∧ Aside0 (path_Path_Fields.l0 kq x3_1 l0_0 (l0_0.length : Int) x9_1 = some r) ∧ Aside0 (kq ≤ k) ∧ Aside0 (Kd.R (Kd.int .i64) 3 w' w.heap.size (fun _ => True) v3 x3_1) ∧ Aside0 (w'.heap[gb245]? = some (.cells #[(.slice A0_0 l0_0.length c0_0), .int .u8 a0_1, .int .i64 a0_2, .int .i64 a0_3] 54 (0, 0))) ∧ Aside0 (Below w.heap.size w w'))
  case atStart => exact ⟨(([] : List Int)), (0), (by first | rfl | (simp; done) | (simp [*]; done)), H', ⟨Nat.le_refl _⟩, ⟨by first | exact Kd.R_nil _ _ _ _ _ | exact Kd.Q_nil _ _ _ _ _ | exact Kd.S_nil _ _ _ _ _⟩, ⟨by (with_reducible repeat (first | refine blk_drewN ?_ _ | refine blk_drew ?_ | refine blk_alloc ?_ _)); exact BK245.out⟩, ⟨by repeat (first | (with_reducible first | exact HB.out | apply below_alloc | apply pw_below_drewN | apply below_drew1 | refine below_set ?_ GE245.out) | exact HB.out)⟩⟩
  case round =>
    clear H'
    try clear p2
    try clear hcz3_0
    try clear hcz3_1
    try clear hcz3_2
    try clear hcz3_3
    try clear hfz3_0
    try clear hfz3_1
    try clear hfz3_2
    try clear hfz3_3
    obtain ⟨x3_1, x9_1, rfl, HA, HK1, HO_3, BK245, HB⟩ := hrel
    cases gk with
    | zero => exact absurd HA.out (by simp [path_Path_Fields.l0])
    | succ k1 =>
      have H := HA.out
      clear HA
      simp only [path_Path_Fields.l0] at H
      by_cases c4 : x9_1 < (l0_0.length : Int)
      · rw [if_pos c4] at H
        have c4b0 : decide (x9_1 < (l0_0.length : Int)) = true := decide_eq_true c4
        clear c4
        by_cases c5 : 0 ≤ x9_1
        · rw [if_pos c5] at H
          have c5b0 : decide (0 ≤ x9_1) = true := decide_eq_true c5
          clear c5
          by_cases c6 : x9_1 < (l0_0.length : Int)
          · rw [if_pos c6] at H
            have c6b0 : decide (x9_1 < (l0_0.length : Int)) = true := decide_eq_true c6
            clear c6
            obtain ⟨bq7, hbq7⟩ : ∃ b_ : Bool, b_ = ((rd_T160 l0_0 x9_1).f1) := ⟨_, rfl⟩
            replace H : (if (bq7 = true) then (path_Path_Fields.l0 k1 x3_1 l0_0 (l0_0.length : Int) (wrap64 (x9_1 + 1))) else (if x3_1.length < 17592186044416 then (path_Path_Fields.l0 k1 (x3_1 ++ [(rd_T160 l0_0 x9_1).f0]) l0_0 (l0_0.length : Int) (wrap64 (x9_1 + 1))) else (none))) = some r := by rw [← hbq7] at H; exact H
            have Nbq7 := Aside0.mk hbq7
            clear hbq7
            by_cases c8 : (bq7 = true)
            · subst c8
              have H1 : (path_Path_Fields.l0 k1 x3_1 l0_0 (l0_0.length : Int) (wrap64 (x9_1 + 1))) = some r := by rw [if_pos rfl] at H; exact H
              clear H
              have H := H1
              clear H1
              have H' := Aside0.mk H
              clear H
              have p246 : 0 ≤ (x9_1 : Int) := of_decide_eq_true (by first | (with_reducible assumption) | assumption)
              have q246 : x9_1 < (l0_0.length : Int) := of_decide_eq_true (by first | (with_reducible assumption) | assumption)
              obtain ⟨ad246, e246, hx246_0, hx246_1, hx246_2, hx246_3⟩ := at_T160 HR0_0.out x9_1 p246 q246
              (try rw [← Nbq7.out] at hx246_1)
              (try rw [← Nbq7.out] at hx246_2)
              cases e246
              replace hx246_0 := (HB.out.cell (World.block_lt_of_cell? w _ hx246_0)).trans hx246_0
              replace hx246_1 := (HB.out.cell (World.block_lt_of_cell? w _ hx246_1)).trans hx246_1
              replace hx246_2 := (HB.out.cell (World.block_lt_of_cell? w _ hx246_2)).trans hx246_2
              replace hx246_3 := (HB.out.cell (World.block_lt_of_cell? w _ hx246_3)).trans hx246_3
              replace p246 := eq_true p246
              replace q246 := eq_true q246
              go_wp2_with (first | ((with_reducible refine gate_dst (N := 5) rfl ?_); refine box_event ?hg (N := 5) ?hd (cs := #[.int .i64 0, .bool false, .bool false, .int .i64 0]) (t := 160) ?hr ?_; (case hd => rfl); (case hg => rfl); (case hr => first | (go_simp; done) | (go_simp; rfl)); intro gb247 hg w9 hbox hb; have n0_ := Aside0.mk (Kd.R_below (by (with_reducible repeat (first | apply Kd.R_alloc | apply Kd.R_drewN | apply Kd.R_drew)); exact HO_3.out) hb); have n1_ := Aside0.mk (blk_below (g := gb245) (o := .cells #[.slice (some ad246) l0_0.length c0_0, .int .u8 a0_1, .int .i64 a0_2, .int .i64 a0_3] 54 (0, 0)) (by (with_reducible repeat (first | refine blk_drewN ?_ _ | refine blk_drew ?_ | refine blk_alloc ?_ _)); exact BK245.out) hb); have n2_ := Aside0.mk (below_step (by repeat (first | (with_reducible first | exact HB.out | apply below_alloc | apply pw_below_drewN | apply below_drew1 | refine below_set ?_ GE245.out) | exact HB.out)) hb); have n3_ := Aside0.mk (hbox); have n4_ := Aside0.mk ((by rw [hg]; exact (below_size (by repeat (first | (with_reducible first | exact HB.out | apply below_alloc | apply pw_below_drewN | apply below_drew1 | refine below_set ?_ GE245.out) | exact HB.out))) : w.heap.size ≤ gb247)); have n5_ := Aside0.mk ((by rw [hg]; exact (below_size (by repeat (first | (with_reducible first | exact HB.out | apply below_alloc | apply pw_below_drewN | apply below_drew1 | refine below_set ?_ GE245.out) | exact HB.out))) : w.heap.size ≤ gb247)); have n6_ := Aside0.mk ((by rw [hg]; exact Nat.ne_of_lt (blk_lt (g := gb245) (o := .cells #[.slice (some ad246) l0_0.length c0_0, .int .u8 a0_1, .int .i64 a0_2, .int .i64 a0_3] 54 (0, 0)) (by (with_reducible repeat (first | refine blk_drewN ?_ _ | refine blk_drew ?_ | refine blk_alloc ?_ _)); exact BK245.out)) : gb245 ≠ gb247)); have n7_ := Aside0.mk ((by rw [hg]; exact Nat.ne_of_gt (blk_lt (g := gb245) (o := .cells #[.slice (some ad246) l0_0.length c0_0, .int .u8 a0_1, .int .i64 a0_2, .int .i64 a0_3] 54 (0, 0)) (by (with_reducible repeat (first | refine blk_drewN ?_ _ | refine blk_drew ?_ | refine blk_alloc ?_ _)); exact BK245.out)) : gb247 ≠ gb245)); clear HO_3; clear BK245; clear HB; have HO_3 := n0_; have BK245 := n1_; have HB := n2_; have BK247 := n3_; have GW247 := n4_; have GE247 := n5_; have NB245_247 := n6_; have NB247_245 := n7_; clear n0_ n1_ n2_ n3_ n4_ n5_ n6_ n7_; clear hb hbox hg; have hnb10 := NB247_245.out; have hnc10 := NB245_247.out; have hcz11_0 : w9.cell? ⟨gb247, 0, none⟩ = some (.int .i64 0) := (blk_cell BK247.out 0).trans rfl; have hcz11_1 : w9.cell? ⟨gb247, 1, none⟩ = some (.bool false) := (blk_cell BK247.out 1).trans rfl; have hcz11_2 : w9.cell? ⟨gb247, 2, none⟩ = some (.bool false) := (blk_cell BK247.out 2).trans rfl; have hcz11_3 : w9.cell? ⟨gb247, 3, none⟩ = some (.int .i64 0) := (blk_cell BK247.out 3).trans rfl; have hfz11_0 := blk_frozen BK247.out 0; have hfz11_1 := blk_frozen BK247.out 1; have hfz11_2 := blk_frozen BK247.out 2; have hfz11_3 := blk_frozen BK247.out 3))
              go_roundg k1
              case measure => have := HK1.out; omega
              case rel => exact ⟨(x3_1), (wrap64 (x9_1 + 1)), (by first | rfl | (simp; done) | (simp [*]; done)), H', ⟨by have := HK1.out; omega⟩, ⟨by (with_reducible repeat (first | apply Kd.R_alloc | apply Kd.R_drewN | apply Kd.R_drew)); exact Kd.R_mono (Kd.R_far (p := ⟨gb247, 3, none⟩) (Kd.R_far (p := ⟨gb247, 2, none⟩) (Kd.R_far (p := ⟨gb247, 1, none⟩) (Kd.R_far (p := ⟨gb247, 0, none⟩) (Kd.R_types HO_3.out BK247.out (by decide)) (fun _ hk => hk.2) (.int .i64 ((rd_T160 l0_0 x9_1).f0))) (fun _ hk => hk.2) (.bool true)) (fun _ hk => hk.2) (.bool ((rd_T160 l0_0 x9_1).f2))) (fun _ hk => hk.2) (.int .i64 ((rd_T160 l0_0 x9_1).f3))) (fun _ hk => trivial)⟩, ⟨by (with_reducible repeat (first | refine blk_drewN ?_ _ | refine blk_drew ?_ | refine blk_alloc ?_ _)); refine blk_far ?_ NB245_247.out _; (with_reducible repeat (first | refine blk_drewN ?_ _ | refine blk_drew ?_ | refine blk_alloc ?_ _)); refine blk_far ?_ NB245_247.out _; (with_reducible repeat (first | refine blk_drewN ?_ _ | refine blk_drew ?_ | refine blk_alloc ?_ _)); refine blk_far ?_ NB245_247.out _; (with_reducible repeat (first | refine blk_drewN ?_ _ | refine blk_drew ?_ | refine blk_alloc ?_ _)); refine blk_far ?_ NB245_247.out _; (with_reducible repeat (first | refine blk_drewN ?_ _ | refine blk_drew ?_ | refine blk_alloc ?_ _)); exact BK245.out⟩, ⟨by repeat (first | (with_reducible first | exact HB.out | apply below_alloc | apply pw_below_drewN | apply below_drew1 | refine below_set ?_ GE245.out | refine below_set ?_ GE247.out) | exact HB.out)⟩⟩
            · replace c8 := Bool.eq_false_iff.mpr c8
              subst c8
              have H1 : (if x3_1.length < 17592186044416 then (path_Path_Fields.l0 k1 (x3_1 ++ [(rd_T160 l0_0 x9_1).f0]) l0_0 (l0_0.length : Int) (wrap64 (x9_1 + 1))) else (none)) = some r := by rw [if_neg (show ¬ (false = true) by decide)] at H; exact H
              clear H
              have H := H1
              clear H1
              by_cases c12 : x3_1.length < 17592186044416
              · rw [if_pos c12] at H
                have LMc12 := Aside0.mk c12
                clear c12
                obtain ⟨y248, hy248⟩ : ∃ y_ : List Int, y_ = (x3_1 ++ [(rd_T160 l0_0 x9_1).f0]) := ⟨_, rfl⟩
                replace H : (path_Path_Fields.l0 k1 y248 l0_0 (l0_0.length : Int) (wrap64 (x9_1 + 1))) = some r := by first | (rw [hy248]; with_reducible exact H) | (have H2_ := (Option.bind_some _ _).symm.trans H; rw [hy248]; with_reducible exact H2_) | (have H2_ := (Option.bind_some _ _).symm.trans H; with_reducible exact H2_) | with_reducible exact H | (rw [hy248]; exact H) | exact H
                have Ny248 := Aside0.mk hy248
                clear hy248
                have H' := Aside0.mk H
                clear H
                have p246 : 0 ≤ (x9_1 : Int) := of_decide_eq_true (by first | (with_reducible assumption) | assumption)
                have q246 : x9_1 < (l0_0.length : Int) := of_decide_eq_true (by first | (with_reducible assumption) | assumption)
                obtain ⟨ad246, e246, hx246_0, hx246_1, hx246_2, hx246_3⟩ := at_T160 HR0_0.out x9_1 p246 q246
                (try rw [← Nbq7.out] at hx246_1)
                (try rw [← Nbq7.out] at hx246_2)
                cases e246
                replace hx246_0 := (HB.out.cell (World.block_lt_of_cell? w _ hx246_0)).trans hx246_0
                replace hx246_1 := (HB.out.cell (World.block_lt_of_cell? w _ hx246_1)).trans hx246_1
                replace hx246_2 := (HB.out.cell (World.block_lt_of_cell? w _ hx246_2)).trans hx246_2
                replace hx246_3 := (HB.out.cell (World.block_lt_of_cell? w _ hx246_3)).trans hx246_3
                replace p246 := eq_true p246
                replace q246 := eq_true q246
                go_wp2_with (first | ((with_reducible refine gate_dst (N := 5) rfl ?_); refine box_event ?hg (N := 5) ?hd (cs := #[.int .i64 0, .bool false, .bool false, .int .i64 0]) (t := 160) ?hr ?_; (case hd => rfl); (case hg => rfl); (case hr => first | (go_simp; done) | (go_simp; rfl)); intro gb247 hg w13 hbox hb; have n0_ := Aside0.mk (Kd.R_below (by (with_reducible repeat (first | apply Kd.R_alloc | apply Kd.R_drewN | apply Kd.R_drew)); exact HO_3.out) hb); have n1_ := Aside0.mk (blk_below (g := gb245) (o := .cells #[.slice (some ad246) l0_0.length c0_0, .int .u8 a0_1, .int .i64 a0_2, .int .i64 a0_3] 54 (0, 0)) (by (with_reducible repeat (first | refine blk_drewN ?_ _ | refine blk_drew ?_ | refine blk_alloc ?_ _)); exact BK245.out) hb); have n2_ := Aside0.mk (below_step (by repeat (first | (with_reducible first | exact HB.out | apply below_alloc | apply pw_below_drewN | apply below_drew1 | refine below_set ?_ GE245.out) | exact HB.out)) hb); have n3_ := Aside0.mk (hbox); have n4_ := Aside0.mk ((by rw [hg]; exact (below_size (by repeat (first | (with_reducible first | exact HB.out | apply below_alloc | apply pw_below_drewN | apply below_drew1 | refine below_set ?_ GE245.out) | exact HB.out))) : w.heap.size ≤ gb247)); have n5_ := Aside0.mk ((by rw [hg]; exact (below_size (by repeat (first | (with_reducible first | exact HB.out | apply below_alloc | apply pw_below_drewN | apply below_drew1 | refine below_set ?_ GE245.out) | exact HB.out))) : w.heap.size ≤ gb247)); have n6_ := Aside0.mk ((by rw [hg]; exact Nat.ne_of_lt (blk_lt (g := gb245) (o := .cells #[.slice (some ad246) l0_0.length c0_0, .int .u8 a0_1, .int .i64 a0_2, .int .i64 a0_3] 54 (0, 0)) (by (with_reducible repeat (first | refine blk_drewN ?_ _ | refine blk_drew ?_ | refine blk_alloc ?_ _)); exact BK245.out)) : gb245 ≠ gb247)); have n7_ := Aside0.mk ((by rw [hg]; exact Nat.ne_of_gt (blk_lt (g := gb245) (o := .cells #[.slice (some ad246) l0_0.length c0_0, .int .u8 a0_1, .int .i64 a0_2, .int .i64 a0_3] 54 (0, 0)) (by (with_reducible repeat (first | refine blk_drewN ?_ _ | refine blk_drew ?_ | refine blk_alloc ?_ _)); exact BK245.out)) : gb247 ≠ gb245)); clear HO_3; clear BK245; clear HB; have HO_3 := n0_; have BK245 := n1_; have HB := n2_; have BK247 := n3_; have GW247 := n4_; have GE247 := n5_; have NB245_247 := n6_; have NB247_245 := n7_; clear n0_ n1_ n2_ n3_ n4_ n5_ n6_ n7_; clear hb hbox hg; have hnb14 := NB247_245.out; have hnc14 := NB245_247.out; have hcz15_0 : w13.cell? ⟨gb247, 0, none⟩ = some (.int .i64 0) := (blk_cell BK247.out 0).trans rfl; have hcz15_1 : w13.cell? ⟨gb247, 1, none⟩ = some (.bool false) := (blk_cell BK247.out 1).trans rfl; have hcz15_2 : w13.cell? ⟨gb247, 2, none⟩ = some (.bool false) := (blk_cell BK247.out 2).trans rfl; have hcz15_3 : w13.cell? ⟨gb247, 3, none⟩ = some (.int .i64 0) := (blk_cell BK247.out 3).trans rfl; have hfz15_0 := blk_frozen BK247.out 0; have hfz15_1 := blk_frozen BK247.out 1; have hfz15_2 := blk_frozen BK247.out 2; have hfz15_3 := blk_frozen BK247.out 3) | ((with_reducible refine gateB (b := .append) (xs := #[.tmp 16, .tmp 19]) rfl ?_); at_builtin; refine Kd.R_append (Kd.int .i64) (w0 := w) w.heap.size rfl (.tmp 16) (.tmp 19) 27 3 (.int .i64 0) 8 rfl Tryd.underlying27 info3 rfl (by decide) (by omega) u3 x3_1 ((rd_T160 l0_0 x9_1).f0) [.int .i64 ((rd_T160 l0_0 x9_1).f0)] (fun _ => True) (fun _ => False) rfl (by first | (go_simp; done) | (go_simp; rfl)) ?aP (fun _ hk => hk.elim) ?aF ?aO ?aB ?aS ?aL ?_; (case aP => exact rfl); (case aB => exact (by repeat (first | (with_reducible first | exact HB.out | apply below_alloc | apply pw_below_drewN | apply below_drew1 | refine below_set ?_ GE245.out | refine below_set ?_ GE247.out) | exact HB.out))); (case aF => exact (fun _ _ => trivial)); (case aO => exact (by (with_reducible repeat (first | apply Kd.R_alloc | apply Kd.R_drewN | apply Kd.R_drew)); exact Kd.R_mono (Kd.R_far (p := ⟨gb247, 3, none⟩) (Kd.R_far (p := ⟨gb247, 2, none⟩) (Kd.R_far (p := ⟨gb247, 1, none⟩) (Kd.R_far (p := ⟨gb247, 0, none⟩) (Kd.R_types HO_3.out BK247.out (by decide)) (fun _ hk => hk.2) (.int .i64 ((rd_T160 l0_0 x9_1).f0))) (fun _ hk => hk.2) (.bool false)) (fun _ hk => hk.2) (.bool ((rd_T160 l0_0 x9_1).f2))) (fun _ hk => hk.2) (.int .i64 ((rd_T160 l0_0 x9_1).f3))) (fun _ hk => trivial))); (case aS => exact (below_size (by repeat (first | (with_reducible first | exact HB.out | apply below_alloc | apply pw_below_drewN | apply below_drew1 | refine below_set ?_ GE245.out | refine below_set ?_ GE247.out) | exact HB.out)))); (case aL => have := LMc12.out; omega); intro v249 w16 ho hb hg hat; rw [← Ny248.out] at ho; have n0_ := Aside0.mk (blk_grown (g := gb245) (o := .cells #[.slice (some ad246) l0_0.length c0_0, .int .u8 a0_1, .int .i64 a0_2, .int .i64 a0_3] 54 (0, 0)) (by (with_reducible repeat (first | refine blk_drewN ?_ _ | refine blk_drew ?_ | refine blk_alloc ?_ _)); refine blk_far ?_ NB245_247.out _; (with_reducible repeat (first | refine blk_drewN ?_ _ | refine blk_drew ?_ | refine blk_alloc ?_ _)); refine blk_far ?_ NB245_247.out _; (with_reducible repeat (first | refine blk_drewN ?_ _ | refine blk_drew ?_ | refine blk_alloc ?_ _)); refine blk_far ?_ NB245_247.out _; (with_reducible repeat (first | refine blk_drewN ?_ _ | refine blk_drew ?_ | refine blk_alloc ?_ _)); refine blk_far ?_ NB245_247.out _; (with_reducible repeat (first | refine blk_drewN ?_ _ | refine blk_drew ?_ | refine blk_alloc ?_ _)); exact BK245.out) hg (Kd.R_ne HO_3.out BK245.out (by decide))); have n1_ := Aside0.mk (blk_grown (g := gb247) (o := .cells #[.int .i64 ((rd_T160 l0_0 x9_1).f0), .bool false, .bool ((rd_T160 l0_0 x9_1).f2), .int .i64 ((rd_T160 l0_0 x9_1).f3)] 160 (0, 0)) (by (with_reducible repeat (first | refine blk_drewN ?_ _ | refine blk_drew ?_ | refine blk_alloc ?_ _)); refine blk_put (cs := #[.int .i64 ((rd_T160 l0_0 x9_1).f0), .bool false, .bool ((rd_T160 l0_0 x9_1).f2), .int .i64 0]) ?_ 3 _ rfl; (with_reducible repeat (first | refine blk_drewN ?_ _ | refine blk_drew ?_ | refine blk_alloc ?_ _)); refine blk_put (cs := #[.int .i64 ((rd_T160 l0_0 x9_1).f0), .bool false, .bool false, .int .i64 0]) ?_ 2 _ rfl; (with_reducible repeat (first | refine blk_drewN ?_ _ | refine blk_drew ?_ | refine blk_alloc ?_ _)); refine blk_put (cs := #[.int .i64 ((rd_T160 l0_0 x9_1).f0), .bool false, .bool false, .int .i64 0]) ?_ 1 _ rfl; (with_reducible repeat (first | refine blk_drewN ?_ _ | refine blk_drew ?_ | refine blk_alloc ?_ _)); refine blk_put (cs := #[.int .i64 0, .bool false, .bool false, .int .i64 0]) ?_ 0 _ rfl; (with_reducible repeat (first | refine blk_drewN ?_ _ | refine blk_drew ?_ | refine blk_alloc ?_ _)); exact BK247.out) hg (Kd.R_ne HO_3.out BK247.out (by decide))); have n2_ := Aside0.mk (hb); have n3_ := Aside0.mk (ho); clear BK245; clear BK247; clear HB; clear HO_3; have BK245 := n0_; have BK247 := n1_; have HB := n2_; have HO250 := n3_; clear n0_ n1_ n2_ n3_; clear ho hb hg hat))
                go_roundg k1
                case measure => have := HK1.out; omega
                case rel => exact ⟨(y248), (wrap64 (x9_1 + 1)), (by first | rfl | (simp; done) | (simp [*]; done)), H', ⟨by have := HK1.out; omega⟩, ⟨by (with_reducible repeat (first | apply Kd.R_alloc | apply Kd.R_drewN | apply Kd.R_drew)); exact HO250.out⟩, ⟨by (with_reducible repeat (first | refine blk_drewN ?_ _ | refine blk_drew ?_ | refine blk_alloc ?_ _)); exact BK245.out⟩, ⟨by repeat (first | (with_reducible first | exact HB.out | apply below_alloc | apply pw_below_drewN | apply below_drew1 | refine below_set ?_ GE245.out | refine below_set ?_ GE247.out) | exact HB.out)⟩⟩
              · rw [if_neg c12] at H
                exact absurd H (by simp)
          · rw [if_neg c6] at H
            exact absurd H (by simp)
        · rw [if_neg c5] at H
          exact absurd H (by simp)
      · rw [if_neg c4] at H
        have c4b0 : decide (x9_1 < (l0_0.length : Int)) = false := decide_eq_false c4
        clear c4
        obtain rfl := Option.some.inj H
        go_wp2
        go_ret
        exact ⟨_, by first | rfl | (simp [errW_none, errW_some] <;> rfl) | (simp [*, errW_none, errW_some] <;> rfl), by (with_reducible repeat (first | apply Kd.R_alloc | apply Kd.R_drewN | apply Kd.R_drew)); exact HO_3.out, by repeat (first | (with_reducible first | exact HB.out | apply below_alloc | apply pw_below_drewN | apply below_drew1 | refine below_set ?_ GE245.out) | exact HB.out)⟩

end Go.Proofs.YtejpjclbeogajaaDoorP.Pf

/-
  mask.Parse; policy.Hides, policy.Bars.
-/
namespace Go.Proofs.YtejpjclbeogajaaDoor
open Go.RowKit
open Go.Proofs.YtejpjclbeogajaaDoorP
open Go.Proofs.YtejpjclbeogajaaDoorW.PrintWords (Kd)
set_option linter.unusedVariables false
set_option linter.unusedSimpArgs false

theorem sg3_low : ∀ j, j < (⟨#[46, 44]⟩ : ByteArray).size → bt ⟨#[46, 44]⟩ j < 128 := by decide +kernel
theorem MskPost.under {w w' w'' : World} {o : Option (List (List Int))} {e : Ending} (hb : Below w.heap.size w w') (h : MskPost w' o e w'') : MskPost w o e w'' :=
  ⟨h.no, h.yes, hb.trans (h.below.mono hb.size)⟩
set_option maxHeartbeats 4000000 in
set_option maxRecDepth 100000 in
theorem mskParse_calls (l0 : List SRec) (l1 : List SCho) (A0 A1 : Option Addr) (c0 c1 : Nat) (root : Nat) (hw : SchW l0) (hb : SchB l0) (hroot : root < l0.length) (text : ByteArray) (ht : text.size ≤ 140737488351232) (w : World) (h0 : Kd.C Pf.k82 w A0 l0.length l0) :
    Calls Tryd.prog 21 #[.agg #[.slice A0 l0.length c0, .slice A1 l1.length c1, .int .i64 (root : Int)], .string text] w (MskPost w (mskI l0 root text)) := by
  obtain ⟨w1, hw1⟩ : ∃ w1, w1 = w.alloc (Obj.cells #[.slice A0 l0.length c0, .slice A1 l1.length c1, .int .i64 (root : Int)] 32) := ⟨_, rfl⟩
  have hb1 : Below w.heap.size w w1 := by rw [hw1]; exact below1 _ _
  have bS : w1.heap[w.heap.size]? = some (.cells #[.slice A0 l0.length c0, .slice A1 l1.length c1, .int .i64 (root : Int)] 32 (0, 0)) := by rw [hw1]; exact blk_new _ _
  obtain ⟨S, hS⟩ : ∃ S, S = w.heap.size := ⟨_, rfl⟩
  rw [← hS] at bS
  have HB1 := Lib.hid hb1
  have HBS := Lib.hid bS
  have HSW := Lib.hid hw
  have HSB := Lib.hid hb
  have HRT := Lib.hid hroot
  have HC0 := Lib.hid h0
  have HTS := Lib.hid ht
  have hpi : mskI l0 root text = match toks text ⟨#[46, 44]⟩ with
    | .error _ => none
    | .ok l => if 1024 < text.size then none else mskO l0 root l := rfl
  have HPI := Lib.hid hpi
  clear hb1 bS hw hb hroot h0 ht hpi
  generalize mskI l0 root text = OUT at *
  go_enter Tryd.func21, Tryd.ntmps21
  go_upto_region 1 with (fail)
  rw [← hw1, ← hS]
  clear hw1 hS
  go_wp2_with fail
  refine (tokens_calls text ⟨#[46, 44]⟩ w1 HTS.out sg3_low).mono ?_
  intro e w2 hp
  unfold TokensPost at hp
  cases htk : toks text ⟨#[46, 44]⟩ with
  | error x =>
    obtain ⟨c, p⟩ := x
    rw [htk] at hp
    obtain ⟨hB2, rfl⟩ := hp
    have hc : c ≠ 0 := fun e => by subst e; exact toksL_err _ _ _ htk
    have HO := Lib.hid (HPI.out.trans (by rw [htk]))
    have HB2 := Lib.hid (HB1.out.trans (hB2.mono HB1.out.size))
    have hcb : (c != 0) = true := bne_iff_ne.2 hc
    clear hB2 htk hc HPI
    go_wp2_with fail
    refine bodyPost_ret (v := .tuple #[.pointer none, .int .i64 30]) (by simp [results, Tryd.results21, go_sem, *]) rfl (MskPost.bad (w := w) (HO.out) (HB2.out.alloc HB2.out.size _))
  | ok l =>
    rw [htk] at hp
    obtain ⟨hB2, v, rfl, hown⟩ := hp
    have hTW := toks_W htk
    have HTW := Lib.hid hTW
    have hO : OUT = if 1024 < text.size then none else mskO l0 root l := HPI.out.trans (by rw [htk])
    have HO := Lib.hid hO
    have HB2 := Lib.hid (HB1.out.trans (hB2.mono HB1.out.size))
    have HBS2 := Lib.hid (blk_below HBS.out hB2 (blk_lt HBS.out))
    obtain ⟨g, cg, rfl, hcg⟩ : ∃ g cg, v = .slice (some ⟨g, 0, none⟩) l.length cg ∧ l.length ≤ cg := by
      obtain ⟨A, c, rfl, hc, _⟩ := Kd.R_reads (toks_R hown)
      rw [List.length_map] at hown hc ⊢
      obtain ⟨g, hg, _⟩ := tokRow_owned hown hTW.pos
      exact ⟨g, c, by rw [hg], hc⟩
    have hTI : ToksIn w2 g l := by
      obtain ⟨g', hg, ht⟩ := tokRow_owned hown hTW.pos
      cases hg
      exact ht
    have HTI := Lib.hid hTI
    have HCG := Lib.hid hcg
    clear hB2 htk hTW hO hown HPI hTI hcg
    by_cases hz : 1024 < text.size
    · have hzd : decide ((1024 : Int) < (text.size : Int)) = true := decide_eq_true (by omega)
      have HO2 := Lib.hid (HO.out.trans (if_pos hz))
      clear hz
      go_wp2_with fail
      refine bodyPost_ret (v := .tuple #[.pointer none, .int .i64 30]) (by simp [results, Tryd.results21, go_sem, *]) rfl (MskPost.bad (w := w) (HO2.out) (HB2.out.alloc HB2.out.size _))
    · have hzd : decide ((1024 : Int) < (text.size : Int)) = false := decide_eq_false (by omega)
      have HO2 := Lib.hid (HO.out.trans (if_neg hz))
      clear hz HO
      go_upto_region 4 with (fail)
      obtain ⟨w3, hw3⟩ : ∃ w3, w3 = w2.alloc (Obj.cells #[.int .i64 0, .int .i64 0] 95) := ⟨_, rfl⟩
      have hb3 : Below w2.heap.size w2 w3 := by rw [hw3]; exact below1 _ _
      rw [← hw3]
      have HB3 := Lib.hid (HB2.out.trans (hb3.mono HB2.out.size))
      have hBS3 := blk_below HBS2.out hb3 (blk_lt HBS2.out)
      have HTI3 := Lib.hid (HTI.out.kept (hb3.block g (HTI.out.lt HTW.out.pos)))
      have s0 : w3.cell? ⟨S, 0, none⟩ = some (.slice A0 l0.length c0) := by rw [blk_cell hBS3]; rfl
      have s1 : w3.cell? ⟨S, 1, none⟩ = some (.slice A1 l1.length c1) := by rw [blk_cell hBS3]; rfl
      have s2 : w3.cell? ⟨S, 2, none⟩ = some (.int .i64 (root : Int)) := by rw [blk_cell hBS3]; rfl
      have lS := blk_lt hBS3
      clear hw3 hb3 hBS3
      go_wp2_with fail
      refine (mskOf_calls l0 l1 A0 A1 c0 c1 root HSW.out HSB.out HRT.out l g cg HTW.out HCG.out w3 (Kd.C_below HC0.out HB3.out) HTI3.out).mono ?_
      intro e w4 hp
      have HP := Lib.hid hp
      clear hp
      cases ho : mskO l0 root l with
      | none =>
        obtain rfl := HP.out.no ho
        have HO3 := Lib.hid (HO2.out.trans ho)
        have HB4 := Lib.hid (HB3.out.trans (HP.out.below.mono HB3.out.size))
        clear ho
        go_wp2_with fail
        refine bodyPost_ret (v := .tuple #[.pointer none, .int .i64 30]) (by simp [results, Tryd.results21, go_sem, *]) rfl (MskPost.bad (w := w) (HO3.out) (HB4.out))
      | some W =>
        obtain ⟨b, m, n, N, rfl, hM, hr, hn⟩ := HP.out.yes W ho
        have HM := Lib.hid (And.intro hM (And.intro hr hn))
        have HO3 := Lib.hid (HO2.out.trans ho)
        have HB4 := Lib.hid (HB3.out.trans (HP.out.below.mono HB3.out.size))
        clear ho hM hr hn
        go_wp2_with fail
        refine bodyPost_ret (v := .tuple #[.pointer (some ⟨b, 0, none⟩), .int .i64 0]) (by simp [results, Tryd.results21, go_sem, *]) rfl ⟨fun h => (by rw [HO3.out] at h; cases h), fun W' hW => ?_, HB4.out⟩
        rw [HO3.out] at hW
        cases hW
        exact ⟨b, m, n, N, rfl, HM.out.1, HM.out.2.1, HM.out.2.2⟩

/-- the fields of a path -/
def fldsOf (steps : List Pf.S160) : List Int := (steps.filter fun x => !x.f1).map fun x => x.f0
theorem fields_go (steps : List Pf.S160) (hl : steps.length ≤ 5000) : ∀ (d i : Nat) (acc : List Int), i + d = steps.length → acc.length ≤ i → Pf.path_Path_Fields.l0 (d + 1) acc steps (steps.length : Int) (i : Int) = some (acc ++ fldsOf (steps.drop i))
  | 0, i, acc, hd, ha => by
    unfold Pf.path_Path_Fields.l0
    rw [if_neg (by omega), List.drop_eq_nil_of_le (by omega)]
    simp [fldsOf]
  | d + 1, i, acc, hd, ha => by
    have hi : i < steps.length := by omega
    have hrd : Pf.rd_T160 steps (i : Int) = steps[i] := by
      unfold Pf.rd_T160
      rw [Int.toNat_natCast, List.getD_eq_getElem?_getD, List.getElem?_eq_getElem hi]
      rfl
    unfold Pf.path_Path_Fields.l0
    rw [if_pos (by omega), if_pos (by omega), if_pos (by omega), hrd, show ((i : Int) + 1) = ((i + 1 : Nat) : Int) from rfl, w64 (by omega), List.drop_eq_getElem_cons hi]
    cases hf : steps[i].f1 with
    | true =>
      rw [if_pos rfl, fields_go steps hl d (i + 1) acc (by omega) (by omega), fldsOf, fldsOf, List.filter_cons_of_neg (by rw [hf]; simp)]
    | false =>
      rw [if_neg (by simp), if_pos (by omega), fields_go steps hl d (i + 1) _ (by omega) (by rw [List.length_append, List.length_singleton]; omega), fldsOf, fldsOf, List.filter_cons_of_pos (by rw [hf]; rfl), List.map_cons, List.append_assoc]
      rfl
theorem fields_is (steps : List Pf.S160) (hl : steps.length ≤ 5000) (a1 a2 a3 : Int) : Pf.path_Path_Fields.f (steps.length + 1) steps a1 a2 a3 = some (fldsOf steps) :=
  (fields_go steps hl steps.length 0 [] (by omega) (Nat.le_refl _)).trans (by simp)

set_option maxHeartbeats 4000000 in
set_option maxRecDepth 100000 in
theorem hides_calls {w : World} {g b m n : Nat} {N : NMap} {W : List (List Int)} {sv0 sv1 sv2 : Value} (bP : w.heap[g]? = some (.cells #[sv0, sv1, sv2, .pointer (some ⟨b, 0, none⟩)] policyT (0, 0))) (hM : Msk w n N W) (hr : N [] = some (b, m)) (hn : n ≤ 5000)
    (A : Option Addr) (c : Nat) (steps : List Pf.S160) (a1 a2 a3 : Int) (hC : Kd.C Pf.k160 w A steps.length steps) (hc : steps.length ≤ c) (hl : steps.length ≤ 5000) (hwf : ∀ i ∈ fldsOf steps, (Lit.int .i64 i).wf = true) :
    Calls Tryd.prog 19 #[.pointer (some ⟨g, 0, none⟩), .agg #[.slice A steps.length c, .int .u8 a1, .int .i64 a2, .int .i64 a3]] w fun e w' => e = .returned (.bool (hasA W (fldsOf steps))) ∧ Below w.heap.size w w' := by
  obtain ⟨w1, hw1⟩ : ∃ w1, w1 = w.alloc (Obj.cells #[.slice A steps.length c, .int .u8 a1, .int .i64 a2, .int .i64 a3] 54) := ⟨_, rfl⟩
  have hb1 : Below w.heap.size w w1 := by rw [hw1]; exact below1 _ _
  have bS : w1.heap[w.heap.size]? = some (.cells #[.slice A steps.length c, .int .u8 a1, .int .i64 a2, .int .i64 a3] 54 (0, 0)) := by rw [hw1]; exact blk_new _ _
  obtain ⟨S, hS⟩ : ∃ S, S = w.heap.size := ⟨_, rfl⟩
  rw [← hS] at bS
  have lg := blk_lt bP
  have HB1 := Lib.hid hb1
  have HBS := Lib.hid bS
  have bP1 := blk_below bP hb1 lg
  have HBP := Lib.hid bP1
  have HBP0 := Lib.hid bP
  have HM := Lib.hid (And.intro hM (And.intro hr hn))
  have HC := Lib.hid hC
  have HL := Lib.hid hc
  have HF := Lib.hid (fields_is steps hl a1 a2 a3)
  have HWF := Lib.hid hwf
  clear hb1 bS bP hM hC hc hl hwf hr hn lg bP1
  go_enter Tryd.func19, Tryd.ntmps19
  go_upto_region 3 with (fail)
  rw [← hw1, ← hS]
  clear hw1 hS
  have s0 : w1.cell? ⟨S, 0, none⟩ = some (.slice A steps.length c) := by rw [blk_cell HBS.out]; rfl
  have s1 : w1.cell? ⟨S, 1, none⟩ = some (.int .u8 a1) := by rw [blk_cell HBS.out]; rfl
  have s2 : w1.cell? ⟨S, 2, none⟩ = some (.int .i64 a2) := by rw [blk_cell HBS.out]; rfl
  have s3 : w1.cell? ⟨S, 3, none⟩ = some (.int .i64 a3) := by rw [blk_cell HBS.out]; rfl
  have p3 : w1.cell? ⟨g, 3, none⟩ = some (.pointer (some ⟨b, 0, none⟩)) := by rw [blk_cell HBP.out]; rfl
  have HBd := Lib.hid (show Below w.heap.size w w1.drew from ⟨HB1.out.os, HB1.out.tape, HB1.out.output, HB1.out.size, HB1.out.block⟩)
  have HCd := Lib.hid (Kd.C_below HC.out HBd.out)
  have hcl : Calls Tryd.prog 48 #[.agg #[.slice A steps.length c, .int .u8 a1, .int .i64 a2, .int .i64 a3]] w1.drew fun e w2 => ∃ A2 c2, e = .returned (.slice A2 (fldsOf steps).length c2) ∧ Hid (Kd.C (Kd.int .i64) w2 A2 (fldsOf steps).length (fldsOf steps)) ∧ w2.cell? ⟨g, 3, none⟩ = some (.pointer (some ⟨b, 0, none⟩)) ∧ Hid (Below w.heap.size w w2) := by
    refine (Pf.path_Path_Fields.calls _ A c steps a1 a2 a3 _ _ HCd.out HL.out HF.out).mono ?_
    rintro e w2 ⟨v0, rfl, hR, hB2⟩
    obtain ⟨A2, c2, rfl, hc2, hC2⟩ := Kd.R_reads hR
    have HB2 := Lib.hid (HBd.out.trans (hB2.mono HBd.out.size))
    refine ⟨A2, c2, rfl, Lib.hid hC2, ?_, HB2⟩
    rw [blk_cell (blk_below HBP0.out HB2.out (blk_lt HBP0.out))]; rfl
  have HCL := Lib.hid hcl
  have hhas : ∀ w2 A2 c2, Hid (Kd.C (Kd.int .i64) w2 A2 (fldsOf steps).length (fldsOf steps)) → Hid (Below w.heap.size w w2) → Calls Tryd.prog 47 #[.pointer (some ⟨b, 0, none⟩), .slice A2 (fldsOf steps).length c2] w2 fun e w3 => e = .returned (.tuple #[.bool (hasA W (fldsOf steps)), .bool (hasS W (fldsOf steps))]) ∧ Hid (Below w.heap.size w w3) := fun w2 A2 c2 h1 h2 => (has_calls w2 n N W b m (HM.out.1.below h2.out) (Nat.le_trans HM.out.2.2 (by omega)) HM.out.2.1 A2 c2 (fldsOf steps) h1.out HWF.out).mono fun e w3 h => ⟨h.1, Lib.hid (h2.out.trans (h.2.mono h2.out.size))⟩
  have HHAS := Lib.hid hhas
  clear hcl hhas
  go_region_with (first
    | (go_at_call 48; refine HCL.out.mono ?_; rintro e w2 ⟨A2, c2, rfl, HC2, p3', HB2⟩)
    | (go_at_call 47; refine (HHAS.out _ _ _ HC2 HB2).mono ?_; rintro e w3 ⟨rfl, HB3⟩))
  all_goals (go_wp2_with fail)
  all_goals exact bodyPost_ret (v := .bool (hasA W (fldsOf steps))) (by simp [results, Tryd.results19, go_sem, *]) rfl ⟨rfl, HB3.out⟩

theorem len_most : ∀ W2 : List (List Int), ∃ d, ∀ y ∈ W2, y.length ≤ d
  | [] => ⟨0, by simp⟩
  | a :: W2 => by
    obtain ⟨d, hd⟩ := len_most W2
    refine ⟨a.length + d, fun y hy => ?_⟩
    rcases List.mem_cons.1 hy with rfl | h
    · omega
    · have := hd y h; omega
set_option maxHeartbeats 4000000 in
set_option maxRecDepth 100000 in
theorem bars_calls {w : World} {g b m n b2 m2 n2 : Nat} {N N2 : NMap} {W W2 : List (List Int)} {sv0 sv1 sv2 : Value} (bP : w.heap[g]? = some (.cells #[sv0, sv1, sv2, .pointer (some ⟨b, 0, none⟩)] policyT (0, 0))) (hM : Msk w n N W) (hr : N [] = some (b, m)) (hM2 : Msk w n2 N2 W2) (hr2 : N2 [] = some (b2, m2)) :
    Calls Tryd.prog 23 #[.pointer (some ⟨g, 0, none⟩), .pointer (some ⟨b2, 0, none⟩)] w fun e w' => e = .returned (.bool (meetN W W2)) ∧ Below w.heap.size w w' := by
  obtain ⟨d, hd⟩ := len_most W2
  have p3 : w.cell? ⟨g, 3, none⟩ = some (.pointer (some ⟨b, 0, none⟩)) := by rw [blk_cell bP]; rfl
  have HMM := Lib.hid (meets_calls d w n n2 N N2 W W2 b m b2 m2 hd hM hM2 hr hr2)
  have lg := blk_lt bP
  clear hd hM hM2 hr hr2 bP
  go_enter Tryd.func23, Tryd.ntmps23
  go_wp2_with (first
    | (go_at_call 50; refine HMM.out.mono ?_; rintro e w3 ⟨rfl, hB3⟩))
  exact bodyPost_ret (v := .bool (meetN W W2)) (by simp [results, Tryd.results23, go_sem, *]) rfl ⟨rfl, hB3⟩

end Go.Proofs.YtejpjclbeogajaaDoor

-- laid by a program (wip/printf.sh): functions of the program as plain Lean functions, with their contracts
namespace Go.Proofs.YtejpjclbeogajaaDoorP.Pf
open Go.RowKit Go.Proofs.YtejpjclbeogajaaDoorW.PrintWords Go.Proofs.YtejpjclbeogajaaDoorW.PrintLast Go.Proofs.YtejpjclbeogajaaDoor.PwG
set_option linter.unusedVariables false
set_option linter.unusedSimpArgs false

/-! ### path_sign: function 76 -/
def path_sign.f (l0 : List (S103)) (a1 : Int) (a2 : ByteArray) : Option (Bool) := if a1 < (l0.length : Int) then (if 0 ≤ a1 then (if ((rd_T103 l0 a1).f0) = 4 then (some (((rd_T103 l0 a1).f1).toList == a2.toList)) else (some false)) else (none)) else (some false)
set_option maxHeartbeats 8000000 in
set_option maxRecDepth 100000 in
theorem path_sign.calls (A0 : Option Addr) (c0 : Nat) (l0 : List (S103)) (a1 : Int) (a2 : ByteArray) (r : Bool) (w : World) (hr0 : Kd.C k103 w A0 l0.length l0) (hc0 : l0.length ≤ c0) (h : path_sign.f l0 a1 a2 = some r) :
    Calls Tryd.prog 76 #[.slice A0 l0.length c0, .int .i64 a1, .string a2] w fun e w' => e = .returned (.bool r) ∧ Drawn0 w w' := by
  have HR0 := Aside0.mk hr0
  have HC0 := Aside0.mk hc0
  clear hr0 hc0
  have H : (if a1 < (l0.length : Int) then (if 0 ≤ a1 then (if ((rd_T103 l0 a1).f0) = 4 then (some (((rd_T103 l0 a1).f1).toList == a2.toList)) else (some false)) else (none)) else (some false)) = some r := h
  clear h
  by_cases c4 : a1 < (l0.length : Int)
  · rw [if_pos c4] at H
    have c4b0 : decide (a1 < (l0.length : Int)) = true := decide_eq_true c4
    clear c4
    by_cases c5 : 0 ≤ a1
    · rw [if_pos c5] at H
      have c5b0 : decide (0 ≤ a1) = true := decide_eq_true c5
      clear c5
      by_cases c6 : ((rd_T103 l0 a1).f0) = 4
      · rw [if_pos c6] at H
        have c6b0 : (((rd_T103 l0 a1).f0) == 4) = true := beq_iff_eq.mpr c6
        have c6b1 : (((rd_T103 l0 a1).f0) != 4) = false := bne_eq_false_iff_eq.mpr c6
        clear c6
        obtain rfl := Option.some.inj H
        have p214 : 0 ≤ (a1 : Int) := of_decide_eq_true (by first | (with_reducible assumption) | assumption)
        have q214 : a1 < (l0.length : Int) := of_decide_eq_true (by first | (with_reducible assumption) | assumption)
        obtain ⟨ad214, e214, hx214_0, hx214_1, hx214_2⟩ := at_T103 HR0.out a1 p214 q214
        cases e214
        replace p214 := eq_true p214
        replace q214 := eq_true q214
        have p215 : 0 ≤ (a1 : Int) := of_decide_eq_true (by first | (with_reducible assumption) | assumption)
        have q215 : a1 < (l0.length : Int) := of_decide_eq_true (by first | (with_reducible assumption) | assumption)
        obtain ⟨ad215, e215, hx215_0, hx215_1, hx215_2⟩ := at_T103 HR0.out a1 p215 q215
        obtain rfl : ad214 = ad215 := (by injection e215)
        replace p215 := eq_true p215
        replace q215 := eq_true q215
        go_enter Tryd.func76, Tryd.ntmps76
        go_wp2
        go_ret
        exact ⟨by first | rfl | (simp; done) | (simp [*]; done), by repeat (first | exact Drawn0.refl _ | apply Drawn0.step)⟩
      · rw [if_neg c6] at H
        have c6b0 : (((rd_T103 l0 a1).f0) == 4) = false := beq_eq_false_iff_ne.mpr c6
        have c6b1 : (((rd_T103 l0 a1).f0) != 4) = true := bne_iff_ne.mpr c6
        obtain rfl := Option.some.inj H
        have p214 : 0 ≤ (a1 : Int) := of_decide_eq_true (by first | (with_reducible assumption) | assumption)
        have q214 : a1 < (l0.length : Int) := of_decide_eq_true (by first | (with_reducible assumption) | assumption)
        obtain ⟨ad214, e214, hx214_0, hx214_1, hx214_2⟩ := at_T103 HR0.out a1 p214 q214
        cases e214
        replace p214 := eq_true p214
        replace q214 := eq_true q214
        go_enter Tryd.func76, Tryd.ntmps76
        go_wp2
        go_ret
        exact ⟨by first | rfl | (simp; done) | (simp [*]; done), by repeat (first | exact Drawn0.refl _ | apply Drawn0.step)⟩
    · rw [if_neg c5] at H
      exact absurd H (by simp)
  · rw [if_neg c4] at H
    have c4b0 : decide (a1 < (l0.length : Int)) = false := decide_eq_false c4
    clear c4
    obtain rfl := Option.some.inj H
    go_enter Tryd.func76, Tryd.ntmps76
    go_wp2
    go_ret
    exact ⟨by first | rfl | (simp; done) | (simp [*]; done), by repeat (first | exact Drawn0.refl _ | apply Drawn0.step)⟩

end Go.Proofs.YtejpjclbeogajaaDoorP.Pf

/-
  Ways into a message: steps of tokens, as a plain function; path.sign; a path that is being made.
-/
namespace Go.Proofs.YtejpjclbeogajaaDoor
open Go.RowKit
open Go.Proofs.YtejpjclbeogajaaDoorP
open Go.Proofs.YtejpjclbeogajaaDoorW.PrintWords (Kd blk_ne blk_far blk_put)
set_option linter.unusedVariables false
set_option linter.unusedSimpArgs false

abbrev SStep := Pf.S160
abbrev STy := Pf.S49
abbrev kStep := Pf.k160
abbrev pathT : TypeId := 54
abbrev stepT : TypeId := 160
def cBra : ByteArray := ⟨#[91]⟩
def cKet : ByteArray := ⟨#[93]⟩
def cStar : ByteArray := ⟨#[42]⟩
/-- the step of an element that is written from a place on -/
def elemT (l : List Tok) (j : Nat) : Option SStep :=
  if sigT l j cStar = true then some ⟨0, true, true, 0⟩
  else if j < l.length ∧ kindT l j = 2 then (match numOf (textT l j) 4 true with | some n => if n < 2147483648 then some ⟨0, true, false, n⟩ else none | none => none) else none
/-- elements, from a place on: the place behind, how many lists are left, the steps -/
def idxF (l : List Tok) : Nat → Nat → Int → List SStep → Option (Nat × Int × List SStep)
  | 0, _, _, _ => none
  | f + 1, i, ls, acc => if sigT l i cBra = true then (match elemT l (i + 1) with
    | none => none
    | some st => if ls ≠ 0 ∧ sigT l (i + 2) cKet = true then idxF l f (i + 3) (ls - 1) (acc ++ [st]) else none) else some (i, ls, acc)
/-- a path, from a place on: its steps, its type, the place behind -/
def pthF (l0 : List SRec) (l : List Tok) : Nat → Nat → STy → List SStep → Option (List SStep × STy × Nat)
  | 0, _, _, _ => none
  | f + 1, i, ty, acc => if labT l i = true ∧ ¬ 0 < ty.f2 ∧ ty.f0 = 13 then (match findI (recAt l0 ty.f1.toNat).f1 (textT l i) with
    | none => none
    | some j => match idxF l (l.length + 1) (i + 1) (fldAt (recAt l0 ty.f1.toNat).f1 j).f1.f2 (acc ++ [⟨(j : Int), false, false, 0⟩]) with
      | none => none
      | some (i2, ls, acc2) => if 24 < acc2.length then none
        else if sigT l i2 cDot = true then pthF l0 l f (i2 + 1) ⟨(fldAt (recAt l0 ty.f1.toNat).f1 j).f1.f0, (fldAt (recAt l0 ty.f1.toNat).f1 j).f1.f1, ls⟩ acc2
        else some (acc2, ⟨(fldAt (recAt l0 ty.f1.toNat).f1 j).f1.f0, (fldAt (recAt l0 ty.f1.toNat).f1 j).f1.f1, ls⟩, i2)) else none
def pthO (l0 : List SRec) (root : Nat) (l : List Tok) (i : Nat) : Option (List SStep × STy × Nat) := pthF l0 l (l.length + 1) i ⟨13, (root : Int), 0⟩ []
def pthI (l0 : List SRec) (root : Nat) (text : ByteArray) : Option (List SStep × STy) := match toks text ⟨#[46, 91, 93, 42]⟩ with
  | .error _ => none
  | .ok l => if 1024 < text.size then none else match pthO l0 root l 0 with
    | none => none
    | some (st, ty, i) => if kindT l i = 0 then some (st, ty) else none

theorem pathSign_is (l : List Tok) (i : Nat) (c : ByteArray) : Pf.path_sign.f (l.map tT) (i : Int) c = some (sigT l i c) := by
  unfold Pf.path_sign.f
  by_cases h : i < l.length
  · rw [if_pos (by rw [List.length_map]; omega), if_pos (by omega), rd_tok l i h, sigT_lt h]
    by_cases e : (l[i]'h).kind = 4
    · rw [if_pos (show (tT l[i]).f0 = 4 from e), decide_eq_true e, Bool.true_and, show (tT l[i]).f1 = (l[i]'h).text from rfl, eqS_list]
    · rw [if_neg (show ¬ (tT l[i]).f0 = 4 from e), decide_eq_false e, Bool.false_and]
  · rw [if_neg (by rw [List.length_map]; omega), sigT_ge (by omega)]
theorem pathSign_calls {w : World} {g cg : Nat} {l : List Tok} (hC : ToksIn w g l) (hl : l.length ≤ 5000) (hc : l.length ≤ cg) (i : Nat) (c : ByteArray) :
    Calls Tryd.prog 76 #[.slice (some ⟨g, 0, none⟩) l.length cg, .int .i64 (i : Int), .string c] w fun e w' => e = .returned (.bool (sigT l i c)) ∧ Below w.heap.size w w' := by
  have h := Pf.path_sign.calls (some ⟨g, 0, none⟩) cg (l.map tT) (i : Int) c _ w (toksIn_C hC hl) (by rw [List.length_map]; exact hc) (pathSign_is l i c)
  rw [List.length_map] at h
  exact h.mono fun e w' hp => ⟨hp.1, hp.2.below⟩

/-- a path that is being made: S: the schema's variable, X: the path's, RS: the result's -/
structure PthW (w : World) (S X RS : Nat) (sv0 sv1 sv2 : Value) (wr : World) (u : Value) (ty : STy) (acc : List SStep) : Prop where
  row : Kd.R kStep stepT wr w.heap.size (fun _ => True) u acc
  bS : wr.heap[S]? = some (.cells #[sv0, sv1, sv2] 32 (0, 0))
  bX : wr.heap[X]? = some (.cells #[u, .int .u8 ty.f0, .int .i64 ty.f1, .int .i64 ty.f2] pathT (0, 0))
  bR : wr.heap[RS]? = some (.cells #[.slice none 0 0, .int .u8 0, .int .i64 0, .int .i64 0] pathT (0, 0))
  below : Below w.heap.size w wr
section
variable {w : World} {S X RS : Nat} {sv0 sv1 sv2 : Value} {wr : World} {u : Value} {ty : STy} {acc : List SStep}
theorem PthW.run (h : PthW w S X RS sv0 sv1 sv2 wr u ty acc) {w' : World} (hB : Below wr.heap.size wr w') : PthW w S X RS sv0 sv1 sv2 w' u ty acc :=
  ⟨Kd.R_below h.row hB, blk_below h.bS hB (blk_lt h.bS), blk_below h.bX hB (blk_lt h.bX), blk_below h.bR hB (blk_lt h.bR), h.below.trans (hB.mono h.below.size)⟩
theorem PthW.ne (h : PthW w S X RS sv0 sv1 sv2 wr u ty acc) : S ≠ X ∧ S ≠ RS := ⟨blk_ne h.bS h.bX (by decide), blk_ne h.bS h.bR (by decide)⟩
/-- a row that has grown, and stands in the variable -/
theorem PthW.grown (h : PthW w S X RS sv0 sv1 sv2 wr u ty acc) (hX : w.heap.size ≤ X) (hXR : X ≠ RS) {v1 : Value} {w1 : World} {acc2 : List SStep} (hR : Kd.R kStep stepT w1 w.heap.size (fun _ => True) v1 acc2) (hB : Below w.heap.size w w1) (hg : wr.grownBy w1 u.ownBlock) :
    PthW w S X RS sv0 sv1 sv2 (w1.setCell ⟨X, 0, none⟩ v1) v1 ty acc2 := by
  have b1 := Go.Proofs.YtejpjclbeogajaaDoorW.PrintWords.blk_grown h.bS hg (Kd.R_ne h.row h.bS (by decide))
  have b2 := Go.Proofs.YtejpjclbeogajaaDoorW.PrintWords.blk_grown h.bX hg (Kd.R_ne h.row h.bX (by decide))
  have b3 := Go.Proofs.YtejpjclbeogajaaDoorW.PrintWords.blk_grown h.bR hg (Kd.R_ne h.row h.bR (by decide))
  refine ⟨?_, blk_far b1 h.ne.1 _, blk_put b2 0 _ rfl, blk_far b3 (Ne.symm hXR) _, hB.setCell hX _⟩
  exact Kd.R_mono (Kd.R_far (p := ⟨X, 0, none⟩) (Kd.R_types hR b2 (by decide)) (fun _ hk => hk.2) v1) (fun _ _ => trivial)
theorem PthW.set (h : PthW w S X RS sv0 sv1 sv2 wr u ty acc) (hX : w.heap.size ≤ X) (hXR : X ≠ RS) (i : Nat) (v : Value) (ty2 : STy) (e : (#[u, .int .u8 ty.f0, .int .i64 ty.f1, .int .i64 ty.f2] : Array Value).setIfInBounds i v = #[u, .int .u8 ty2.f0, .int .i64 ty2.f1, .int .i64 ty2.f2]) :
    PthW w S X RS sv0 sv1 sv2 (wr.setCell ⟨X, i, none⟩ v) u ty2 acc :=
  ⟨Kd.R_mono (Kd.R_far (p := ⟨X, i, none⟩) (Kd.R_types h.row h.bX (by decide)) (fun _ hk => hk.2) v) (fun _ _ => trivial), blk_far h.bS h.ne.1 _, blk_put h.bX i _ e, blk_far h.bR (Ne.symm hXR) _, h.below.setCell hX _⟩
theorem PthW.fin (h : PthW w S X RS sv0 sv1 sv2 wr u ty acc) (hRS : w.heap.size ≤ RS) (a b c d : Value) (W4 : World) (hW : W4 = (((wr.setCell ⟨RS, 0, none⟩ a).setCell ⟨RS, 1, none⟩ b).setCell ⟨RS, 2, none⟩ c).setCell ⟨RS, 3, none⟩ d) :
    W4.heap[RS]? = some (.cells #[a, b, c, d] pathT (0, 0)) ∧ Below w.heap.size w W4 ∧ Kd.R kStep stepT W4 w.heap.size (fun _ => True) u acc := by
  subst hW
  have b0 := blk_put h.bR (cs' := #[a, .int .u8 0, .int .i64 0, .int .i64 0]) 0 a rfl
  have b1 := blk_put b0 (cs' := #[a, b, .int .i64 0, .int .i64 0]) 1 b rfl
  have b2 := blk_put b1 (cs' := #[a, b, c, .int .i64 0]) 2 c rfl
  have b3 := blk_put b2 (cs' := #[a, b, c, d]) 3 d rfl
  refine ⟨b3, (((h.below.setCell hRS _).setCell hRS _).setCell hRS _).setCell hRS _, ?_⟩
  have hR := Kd.R_types h.row h.bR (by decide)
  exact Kd.R_mono (Kd.R_far (p := ⟨RS, 3, none⟩) (Kd.R_far (p := ⟨RS, 2, none⟩) (Kd.R_far (p := ⟨RS, 1, none⟩) (Kd.R_far (p := ⟨RS, 0, none⟩) hR (fun _ hk => hk.2) a) (fun _ hk => hk.2) b) (fun _ hk => hk.2) c) (fun _ hk => hk.2) d) (fun _ _ => trivial)
end
/-- what a path's making comes to -/
structure PthPost (w : World) (o : Option (List SStep × STy × Nat)) (e : Ending) (w' : World) : Prop where
  no : o = none → ∃ x : Int, e = .returned (.tuple #[.agg #[.slice none 0 0, .int .u8 0, .int .i64 0, .int .i64 0], .int .i64 x, .bool false])
  yes : ∀ st ty i, o = some (st, ty, i) → ∃ A c, e = .returned (.tuple #[.agg #[.slice A st.length c, .int .u8 ty.f0, .int .i64 ty.f1, .int .i64 ty.f2], .int .i64 (i : Int), .bool true]) ∧ st.length ≤ c ∧ Kd.C kStep w' A st.length st ∧ ∀ x, A = some x → w.heap.size ≤ x.block
  below : Below w.heap.size w w'

theorem idxF_lt {l : List Tok} (hl : TokW l) : ∀ (f i : Nat) (ls : Int) (acc : List SStep) {i2 : Nat} {ls2 : Int} {acc2 : List SStep}, i < l.length → idxF l f i ls acc = some (i2, ls2, acc2) → i2 < l.length
  | 0, _, _, _, _, _, _, _, h => by simp [idxF] at h
  | f + 1, i, ls, acc, i2, ls2, acc2, hi, h => by
    rw [idxF] at h
    split at h
    · split at h
      · cases h
      · split at h
        · rename_i hc
          exact idxF_lt hl f (i + 3) _ _ (hl.before (sigT_bd hc.2) (by rw [sigT_kind hc.2]; decide)) h
        · cases h
    · cases h
      exact hi
theorem pthF_lt {l0 : List SRec} {l : List Tok} (hl : TokW l) : ∀ (f i : Nat) (ty : STy) (acc : List SStep) {st : List SStep} {ty2 : STy} {i2 : Nat}, pthF l0 l f i ty acc = some (st, ty2, i2) → i2 < l.length
  | 0, _, _, _, _, _, _, h => by simp [pthF] at h
  | f + 1, i, ty, acc, st, ty2, i2, h => by
    rw [pthF] at h
    split at h
    · rename_i hc
      have h1 := hl.before (labT_bd hc.1) (labT_kind hc.1)
      split at h
      · cases h
      · split at h
        · cases h
        · rename_i hx
          have h2 := idxF_lt hl _ _ _ _ h1 hx
          split at h
          · cases h
          · split at h
            · exact pthF_lt hl f _ _ _ h
            · cases h
              exact h2
    · cases h
theorem steps_kept {w w' : World} {A : Option Addr} {st : List SStep} (h : Kd.C kStep w A st.length st) (hk : ∀ x, A = some x → w'.heap[x.block]? = w.heap[x.block]?) : Kd.C kStep w' A st.length st := by
  refine C_mk h.2.1 fun h0 => ?_
  obtain ⟨b, o, rfl, hb, hc⟩ := C_addr h h0 (by decide)
  refine ⟨b, o, rfl, fun j p hj => ?_⟩
  obtain ⟨c, hl, hK, hcell⟩ := hc j p hj
  obtain rfl := Pf.k160_open hK
  exact ⟨_, Pf.k160_mk w' p, fun i u hi => (World.cell?_of_block (w := w) (a := ⟨b, o + (j * kStep.sz + i), none⟩) (hk ⟨b, o, none⟩ rfl)).trans (hcell i u hi)⟩

end Go.Proofs.YtejpjclbeogajaaDoor

/-
  Chapter 20's examples, as plain functions.
-/
namespace Go.Proofs.YtejpjclbeogajaaDoor
open Go.RowKit
set_option linter.unusedVariables false
set_option linter.unusedSimpArgs false

/-- the schema of the examples -/
def l20 : List SRec := [⟨⟨#[82]⟩, [⟨⟨#[97]⟩, ⟨13, 1, 0⟩, 0⟩, ⟨⟨#[121]⟩, ⟨6, 0, 0⟩, 0⟩]⟩, ⟨⟨#[65]⟩, [⟨⟨#[120]⟩, ⟨6, 0, 0⟩, 0⟩]⟩]
def tP : ByteArray := ⟨#[104, 105, 100, 101, 32, 97, 46, 120, 59]⟩
def tX : ByteArray := ⟨#[97, 46, 120]⟩
def tA : ByteArray := ⟨#[97]⟩
def tM : ByteArray := ⟨#[97, 44, 32, 121]⟩
theorem k20_P : polI l20 0 tP = some [[0, 0]] := by decide +kernel
theorem k20_M : mskI l20 0 tM = some [[0], [1]] := by decide +kernel
def stX : List SStep := [⟨0, false, false, 0⟩, ⟨0, false, false, 0⟩]
def stA : List SStep := [⟨0, false, false, 0⟩]
theorem k20_X : pthI l20 0 tX = some (stX, ⟨6, 0, 0⟩) := by rfl
theorem k20_A : pthI l20 0 tA = some (stA, ⟨13, 1, 0⟩) := by rfl
def noBraB (text : ByteArray) : Bool := match toks text ⟨#[46, 91, 93, 42]⟩ with | .error _ => true | .ok l => (List.range l.length).all fun i => !sigT l i cBra
theorem noBra_of {text : ByteArray} (h : noBraB text = true) : ∀ l, toks text ⟨#[46, 91, 93, 42]⟩ = .ok l → ∀ i, sigT l i cBra = false := by
  intro l hl i
  unfold noBraB at h
  rw [hl] at h
  by_cases hi : i < l.length
  · have := List.all_eq_true.1 h i (List.mem_range.2 hi)
    simpa using this
  · exact sigT_ge (by omega)
theorem k20_nX : noBraB tX = true := by decide +kernel
theorem k20_nA : noBraB tA = true := by decide +kernel
theorem k20_W : SchW l20 := by
  intro rec hr i hi h13
  have hr2 : rec = 0 ∨ rec = 1 := by have : l20.length = 2 := rfl; omega
  rcases hr2 with rfl | rfl
  · have hi2 : i = 0 ∨ i = 1 := by have : (recAt l20 0).f1.length = 2 := rfl; omega
    rcases hi2 with rfl | rfl
    · exact ⟨by decide, by decide⟩
    · exact absurd h13 (by decide)
  · have hi2 : i = 0 := by have : (recAt l20 1).f1.length = 1 := rfl; omega
    subst hi2
    exact absurd h13 (by decide)
theorem k20_B : SchB l20 := by
  intro rec
  by_cases h : rec < 2
  · have hr2 : rec = 0 ∨ rec = 1 := by omega
    rcases hr2 with rfl | rfl <;> decide
  · unfold recAt
    rw [List.getD_eq_getElem?_getD, List.getElem?_eq_none (by show 2 ≤ rec; omega)]
    exact Nat.zero_le _

end Go.Proofs.YtejpjclbeogajaaDoor
