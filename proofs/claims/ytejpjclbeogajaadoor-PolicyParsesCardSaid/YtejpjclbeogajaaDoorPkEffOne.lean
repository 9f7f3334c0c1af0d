/-
  Parts: EffOne, PolW, MskO.
-/
import Derived.Test.YtejpjclbeogajaaDoorPkMskM
import Derived.Test.YtejpjclbeogajaaDoorPkPolP

/-
  A statement that leaves its order open with one call that writes, whose value is known; all else only reads.
-/
namespace Go.Proofs.YtejpjclbeogajaaDoor
open Go.RowKit
set_option linter.unusedVariables false
set_option linter.unusedSimpArgs false

/-- a world in which so many blocks may have turned -/
structure TurnOf (w : World) (S : Nat → Prop) where
  val : World
  ok : Turn w val S
instance (w : World) (S : Nat → Prop) : Nonempty (TurnOf w S) := ⟨⟨w, Turn.refl _ _⟩⟩
theorem TurnOf.cell (w : World) (S : Nat → Prop) : ∀ (X : TurnOf w S) (b o : Nat), b < w.heap.size → ¬ S b → X.val.cell? ⟨b, o, none⟩ = w.cell? ⟨b, o, none⟩ := fun X b o h hS => World.cell?_of_block (w := w) (a := ⟨b, o, none⟩) (X.ok.block b h hS)

/-- a step that enters nothing -/
def NE (P : Program) (s : Sem Next) : Prop := ∀ (w w' : World) (f : FuncId) (args : Array Value), s.run P w ≠ .ok (.enter f args) w'
theorem ne_bind {P : Program} {α : Type} {s : Sem α} {k : α → Sem Next} (h : ∀ x, NE P (k x)) : NE P (s >>= k) := by
  intro w w' f args e
  rw [Sem.run_bind] at e
  cases hs : s.run P w with
  | ok u w1 => rw [hs] at e; exact h u _ _ _ _ e
  | halt c w1 => rw [hs] at e; simp [Result.andThen] at e
theorem ne_pure {P : Program} (v : Value) : NE P (pure (Next.value v)) := by
  intro w w' f args e
  simp at e
theorem ne_halt {P : Program} (h : Halt) : NE P (Sem.halt h) := by
  intro w w' f args e
  simp at e
theorem ne_nil {P : Program} : NE P (runtimePanic .nilDeref) := by
  unfold runtimePanic
  refine ne_bind fun p => ?_
  exact ne_halt _
theorem nilCheck_noEnter {P : Program} (o : Oper) (x : Operand) (h : o.op = .nilCheck x) : NoEnter P o := by
  obtain ⟨d, op, ty, ps, af, gd⟩ := o
  simp only at h
  subst h
  intro a
  show NE P _
  simp only [execOp]
  repeat' (first | exact ne_nil | exact ne_pure _ | exact ne_halt _ | (refine ne_bind fun _ => ?_) | split)
theorem build_noEnter {P : Program} (o : Oper) (t : TypeId) (xs : Array (Nat × Operand)) (h : o.op = .build t xs) : NoEnter P o := by
  obtain ⟨d, op, ty, ps, af, gd⟩ := o
  simp only at h
  subst h
  intro a
  show NE P _
  simp only [execOp]
  repeat' (first | exact ne_pure _ | exact ne_halt _ | (refine ne_bind fun _ => ?_) | split)
theorem len_noEnter {P : Program} (o : Oper) (xs : Array Operand) (ts : Array TypeId) (h : o.op = .call ⟨.builtin .len, xs, ts⟩) : NoEnter P o := by
  intro a w w' f args e
  obtain ⟨d, op, ty, ps, af, gd⟩ := o
  simp only at h
  subst h
  simp only [execOp, resolve, Sem.run_bind, Sem.run_pure, Result.andThen, invoke, builtin] at e
  split at e <;> cases e
def plainB2 : Op → Bool
  | .nilCheck _ => true
  | .build _ _ => true
  | .call ⟨.builtin .len, _, _⟩ => true
  | o => plainB o
theorem plain2_noEnter {P : Program} (o : Oper) (h : plainB2 o.op = true) : NoEnter P o := by
  unfold plainB2 at h
  split at h
  · exact nilCheck_noEnter o _ (by assumption)
  · exact build_noEnter o _ _ (by assumption)
  · exact len_noEnter o _ _ (by assumption)
  · exact plain_noEnter o h

theorem eff_val {P : Program} {o : Oper} {a : Act} {w w' : World} {K : Act → World → Prop} {Q' : Exit → Act → World → Prop} (v : Value) (hrun : (execOp a.eval o).run P w = .ok (.value v) w') (h : K (a.put o.dst v) w') : o.wp P a w K Q' := by
  unfold Oper.wp
  rw [hrun]
  exact h
theorem eff_call {P : Program} {o : Oper} {a : Act} {w : World} {K : Act → World → Prop} {Q' : Exit → Act → World → Prop} (f : FuncId) (args : Array Value) (hrun : (execOp a.eval o).run P w = .ok (.enter f args) w) (v : Value) (S : World → Prop) (hC : Calls P f args w fun e w' => e = .returned v ∧ S w') (h : ∀ w', S w' → K (a.put o.dst v) w') : o.wp P a w K Q' := by
  unfold Oper.wp
  rw [hrun]
  simp only [Oper.upon]
  exact hC.mono fun e w' hh => by obtain ⟨rfl, hs⟩ := hh; exact h w' hs
theorem wp_region_one {P : Program} {id : Nat} {Q : Exit → Act → World → Prop} {a : Act} {w : World} {l : List Oper} (s : Nat) (v : Value) (S : Nat → Prop) (D1 : World → Prop) (af : Act)
    (hm : P.follows .mixedOrders = true) (hlex : Region.lexB .any (effL [(s, v)] 0 l).toArray = true) (hC1 : ∀ w', D1 w' → Turn w w' S)
    (hwalk : wpQuiet P (effL [(s, v)] 0 l).toArray (fun w' => ∃ X : TurnOf w S, w' = X.val) (fun a' => a' = af) (effL [(s, v)] 0 l) a)
    (hplain : ((List.range l.length).all fun j => decide (j = s) || (match l[j]? with | some o => plainB2 o.op | none => true)) = true)
    (hs : ∃ o, l[s]? = some o ∧ OnAt l af s o ∧ ∃ T, readsB l s T = true ∧
      ∀ (a : Act) (K : Act → World → Prop) (Q' : Exit → Act → World → Prop), (∀ t ∈ T, a.eval (.tmp t) = af.eval (.tmp t)) → (∀ w', D1 w' → K (a.put o.dst v) w') → o.wp P a (w.drewN 1) K Q')
    (hord : ordB l = true) (hend : ∀ w', D1 w' → Q .normal af w') : (Code.region id l.toArray true).wp P Q a w := by
  obtain ⟨o, ho, hon, T, hT, hwp⟩ := hs
  have hlt : s < l.length := (List.getElem?_eq_some_iff.1 ho).1
  refine wp_region_eff [(s, v)] (fun w' => ∃ X : TurnOf w S, w' = X.val) (fun q w' => match q with | 0 => w' = w.drewN 1 | _ => D1 w') af hm hlex ?_ rfl hwalk ?_ ?_ hend
  · intro k w' h
    match k, h with
    | 0, h => exact ⟨⟨w', by have h : w' = w.drewN 1 := h; rw [h]; exact ⟨rfl, rfl, rfl, Nat.le_refl _, fun _ _ _ => rfl⟩⟩, rfl⟩
    | k + 1, h => exact ⟨⟨w', hC1 _ h⟩, rfl⟩
  · refine ⟨fun j oj hj he => ?_, fun k s' v' h => ?_, fun k s' v' s2 v2 h h2 => ?_, fun k k' s' v' v2 h h2 => ?_, fun s' v' h => ?_, hord⟩
    · have hjl : j < l.length := (List.getElem?_eq_some_iff.1 hj).1
      have h := List.all_eq_true.1 hplain j (List.mem_range.2 hjl)
      rw [hj] at h
      by_cases e : j = s
      · subst e; simp [List.lookup] at he
      · rw [decide_eq_false e, Bool.false_or] at h
        exact .inl (plain2_noEnter oj h)
    · match k, h with
      | 0, h =>
        obtain ⟨rfl, rfl⟩ := Prod.mk.inj (Option.some.inj h)
        refine ⟨by simp [List.lookup], o, ho, hon, T, hT, fun a w' K Q' hTT hD hK => ?_⟩
        have hD : w' = w.drewN 1 := hD
        subst hD
        exact hwp a K Q' hTT hK
      | k + 1, h => simp at h
    · match k, h, h2 with
      | 0, _, h2 => simp at h2
      | k + 1, h, _ => simp at h
    · match k, k', h, h2 with
      | 0, 0, _, _ => rfl
      | k + 1, _, h, _ => simp at h
      | _, k' + 1, _, h2 => simp at h2
    · simp only [List.lookup] at h
      split at h
      · rename_i e
        have e : s' = s := by simpa using e
        obtain rfl := Option.some.inj h
        exact ⟨0, by rw [e]; rfl⟩
      · cases h
  · intro s' v' h
    rw [List.mem_singleton] at h
    rw [(Prod.mk.inj h).1]; exact hlt

/-- .. with two effects, one behind the other, over what lay there -/
theorem wp_region_two {P : Program} {id : Nat} {Q : Exit → Act → World → Prop} {a : Act} {w : World} {l : List Oper} (s t : Nat) (v u : Value) (D1 D2 : World → Prop) (af : Act)
    (hm : P.follows .mixedOrders = true) (hlex : Region.lexB .any (effL [(s, v), (t, u)] 0 l).toArray = true) (hst : s ≠ t) (hC1 : ∀ w', D1 w' → Below w.heap.size w w') (hC2 : ∀ w', D2 w' → Below w.heap.size w w')
    (hwalk : wpQuiet P (effL [(s, v), (t, u)] 0 l).toArray (fun w' => ∃ X : BelowOf w, w' = X.val) (fun a' => a' = af) (effL [(s, v), (t, u)] 0 l) a)
    (hplain : ((List.range l.length).all fun j => decide (j = s) || decide (j = t) || (match l[j]? with | some o => plainB2 o.op | none => true)) = true)
    (hs : ∃ o, l[s]? = some o ∧ OnAt l af s o ∧ ∃ T, readsB l s T = true ∧
      ∀ (a : Act) (K : Act → World → Prop) (Q' : Exit → Act → World → Prop), (∀ t ∈ T, a.eval (.tmp t) = af.eval (.tmp t)) → (∀ w', D1 w' → K (a.put o.dst v) w') → o.wp P a (w.drewN 1) K Q')
    (ht : ∃ o, l[t]? = some o ∧ OnAt l af t o ∧ ∃ T, readsB l t T = true ∧
      ∀ (a : Act) (w1 : World) (K : Act → World → Prop) (Q' : Exit → Act → World → Prop), (∀ t ∈ T, a.eval (.tmp t) = af.eval (.tmp t)) → D1 w1 → (∀ w', D2 w' → K (a.put o.dst u) w') → o.wp P a w1 K Q')
    (hpath : ∃ r, s ∈ r ∧ pathB l t r = true) (hord : ordB l = true) (hend : ∀ w', D2 w' → Q .normal af w') : (Code.region id l.toArray true).wp P Q a w := by
  obtain ⟨o, ho, hon, T, hT, hwp⟩ := hs
  obtain ⟨o2, ho2, hon2, T2, hT2, hwp2⟩ := ht
  have hlt : s < l.length := (List.getElem?_eq_some_iff.1 ho).1
  have hlt2 : t < l.length := (List.getElem?_eq_some_iff.1 ho2).1
  refine wp_region_eff [(s, v), (t, u)] (fun w' => ∃ X : BelowOf w, w' = X.val) (fun q w' => match q with | 0 => w' = w.drewN 1 | 1 => D1 w' | _ => D2 w') af hm hlex ?_ rfl hwalk ?_ ?_ hend
  · intro k w' h
    match k, h with
    | 0, h => exact ⟨⟨w', by have h : w' = w.drewN 1 := h; rw [h]; exact ⟨rfl, rfl, rfl, Nat.le_refl _, fun _ _ => rfl⟩⟩, rfl⟩
    | 1, h => exact ⟨⟨w', hC1 _ h⟩, rfl⟩
    | k + 2, h => exact ⟨⟨w', hC2 _ h⟩, rfl⟩
  · refine ⟨fun j oj hj he => ?_, fun k s' v' h => ?_, fun k s' v' s2 v2 h h2 => ?_, fun k k' s' v' v2 h h2 => ?_, fun s' v' h => ?_, hord⟩
    · have hjl : j < l.length := (List.getElem?_eq_some_iff.1 hj).1
      have h := List.all_eq_true.1 hplain j (List.mem_range.2 hjl)
      rw [hj] at h
      by_cases e : j = s
      · subst e; simp [List.lookup] at he
      · by_cases e2 : j = t
        · subst e2
          have e3 : (j == s) = false := by rw [beq_eq_false_iff_ne]; exact e
          simp [List.lookup, e3] at he
        · rw [decide_eq_false e, decide_eq_false e2, Bool.false_or, Bool.false_or] at h
          exact .inl (plain2_noEnter oj h)
    · match k, h with
      | 0, h =>
        obtain ⟨rfl, rfl⟩ := Prod.mk.inj (Option.some.inj h)
        refine ⟨by simp [List.lookup], o, ho, hon, T, hT, fun a w' K Q' hTT hD hK => ?_⟩
        have hD : w' = w.drewN 1 := hD
        subst hD
        exact hwp a K Q' hTT hK
      | 1, h =>
        obtain ⟨rfl, rfl⟩ := Prod.mk.inj (Option.some.inj h)
        have e3 : (t == s) = false := by rw [beq_eq_false_iff_ne]; exact Ne.symm hst
        exact ⟨by simp [List.lookup, e3], o2, ho2, hon2, T2, hT2, fun a w' K Q' hTT hD hK => hwp2 a w' K Q' hTT hD hK⟩
      | k + 2, h => simp at h
    · match k, h, h2 with
      | 0, h, h2 =>
        obtain ⟨rfl, rfl⟩ := Prod.mk.inj (Option.some.inj h)
        obtain ⟨rfl, rfl⟩ := Prod.mk.inj (Option.some.inj h2)
        exact hpath
      | 1, _, h2 => simp at h2
      | k + 2, h, _ => simp at h
    · match k, k', h, h2 with
      | 0, 0, _, _ => rfl
      | 1, 1, _, _ => rfl
      | 0, 1, h, h2 => exact absurd ((Prod.mk.inj (Option.some.inj h)).1.trans (Prod.mk.inj (Option.some.inj h2)).1.symm) hst
      | 1, 0, h, h2 => exact absurd ((Prod.mk.inj (Option.some.inj h2)).1.trans (Prod.mk.inj (Option.some.inj h)).1.symm) hst
      | k + 2, _, h, _ => simp at h
      | _, k' + 2, _, h2 => simp at h2
    · simp only [List.lookup] at h
      split at h
      · rename_i e
        have e : s' = s := by simpa using e
        obtain rfl := Option.some.inj h
        exact ⟨0, by rw [e]; rfl⟩
      · split at h
        · rename_i e
          have e : s' = t := by simpa using e
          obtain rfl := Option.some.inj h
          exact ⟨1, by rw [e]; rfl⟩
        · cases h
  · intro s' v' h
    simp only [List.mem_cons, List.not_mem_nil, or_false, Prod.mk.injEq] at h
    rcases h with h | h
    · rw [h.1]; exact hlt
    · rw [h.1]; exact hlt2

end Go.Proofs.YtejpjclbeogajaaDoor

/-
  policy.Parse: a policy of a text.
-/
namespace Go.Proofs.YtejpjclbeogajaaDoor
open Go.RowKit
open Go.Proofs.YtejpjclbeogajaaDoorP
open Go.Proofs.YtejpjclbeogajaaDoorW.PrintWords (Kd)
set_option linter.unusedVariables false
set_option linter.unusedSimpArgs false

/-- a row of tokens in a block, as the printed texts read it -/
theorem toksIn_C {w : World} {g : Nat} {l : List Tok} (h : ToksIn w g l) (hl : l.length ≤ 5000) : Kd.C Pf.k103 w (some ⟨g, 0, none⟩) (l.map tT).length (l.map tT) := by
  refine C_mk (by rw [List.length_map]; omega) fun h0 => ⟨g, 0, rfl, fun j p hj => ?_⟩
  rw [List.getElem?_map] at hj
  obtain ⟨t, ht, rfl⟩ := Option.map_eq_some_iff.1 hj
  have hlt := (List.getElem?_eq_some_iff.1 ht).1
  obtain ⟨a0, a1, a2⟩ := h j hlt
  rw [ht] at a0 a1 a2
  refine ⟨_, Pf.k103_mk w (tT t), fun i u hi => ?_⟩
  rw [show Pf.k103.sz = 3 from rfl, Nat.zero_add]
  match i, hi with
  | 0, hi => obtain rfl := Option.some.inj hi; exact a0
  | 1, hi => obtain rfl := Option.some.inj hi; exact a1
  | 2, hi => obtain rfl := Option.some.inj hi; exact a2
  | i + 3, hi => simp at hi

abbrev policyT : TypeId := 100
/-- a policy in memory: its mask's block, and the ways that it hides -/
structure PolAt (w : World) (v : Value) (sv0 sv1 sv2 : Value) (W : List (List Int)) : Prop where
  out : ∃ g b m n N, v = .pointer (some ⟨g, 0, none⟩) ∧ w.heap[g]? = some (.cells #[sv0, sv1, sv2, .pointer (some ⟨b, 0, none⟩)] policyT (0, 0)) ∧ Msk w n N W ∧ N [] = some (b, m) ∧ n ≤ 5000
structure PolPost (w : World) (sv0 sv1 sv2 : Value) (o : Option (List (List Int))) (e : Ending) (w' : World) : Prop where
  no : o = none → e = .returned (.tuple #[.pointer none, .int .i64 33])
  yes : ∀ W, o = some W → ∃ v, e = .returned (.tuple #[v, .int .i64 0]) ∧ PolAt w' v sv0 sv1 sv2 W
  below : Below w.heap.size w w'
theorem PolPost.bad {w w' : World} {sv0 sv1 sv2 : Value} {o : Option (List (List Int))} (h : o = none) (hb : Below w.heap.size w w') : PolPost w sv0 sv1 sv2 o (.returned (.tuple #[.pointer none, .int .i64 33])) w' :=
  ⟨fun _ => rfl, fun W hW => (by rw [h] at hW; cases hW), hb⟩
theorem sg2_low : ∀ j, j < (⟨#[46, 59]⟩ : ByteArray).size → bt ⟨#[46, 59]⟩ j < 128 := by decide +kernel

/-- a policy that is being made -/
structure PolI (w5 : World) (b m : Nat) (N : NMap) (acc : List (List Int)) (wr : World) : Prop where
  msk : Msk wr acc.length N acc
  root : N [] = some (b, m)
  turn : Turn w5 wr (fun k => k = b ∨ k = m)
  blocks : ∀ k, InMsk N k → k = b ∨ k = m ∨ w5.heap.size ≤ k
theorem PolI.below {w w5 wr : World} {b m : Nat} {N : NMap} {acc : List (List Int)} (h : PolI w5 b m N acc wr) (hB : Below w.heap.size w w5) (hbm : w.heap.size ≤ b ∧ w.heap.size ≤ m) : Below w.heap.size w wr :=
  hB.trans (h.turn.below hB.size (fun j hj => by rcases hj with rfl | rfl; exact hbm.1; exact hbm.2))
theorem PolI.run {w5 wr w' : World} {b m : Nat} {N : NMap} {acc : List (List Int)} (h : PolI w5 b m N acc wr) (hB : Below wr.heap.size wr w') : PolI w5 b m N acc w' :=
  ⟨h.msk.below hB, h.root, h.turn.trans (Turn.of_below hB (fun k => k = b ∨ k = m)) (fun _ _ hs => hs), h.blocks⟩
theorem PolI.add {w5 wr w' : World} {b m : Nat} {N N' : NMap} {acc : List (List Int)} {r : List Int} (h : PolI w5 b m N acc wr) (hM : Msk w' (acc.length + 1) N' (acc ++ [r])) (hr : N' [] = N []) (hn : ∀ p y, N' p = some y → N p = some y ∨ (wr.heap.size ≤ y.1 ∧ wr.heap.size ≤ y.2)) (hT : Turn wr w' (InMsk N)) : PolI w5 b m N' (acc ++ [r]) w' := by
  refine ⟨by rw [List.length_append, List.length_singleton]; exact hM, hr.trans h.root, h.turn.trans hT fun j hj hs => ?_, fun k hk => ?_⟩
  · rcases h.blocks j hs with e | e | e
    · exact .inl e
    · exact .inr e
    · omega
  · obtain ⟨p, y, hp, hy⟩ := hk
    rcases hn p y hp with h1 | h1
    · exact h.blocks k ⟨p, y, h1, hy⟩
    · have := h.turn.size
      right; right
      rcases hy with rfl | rfl <;> omega
theorem Turn.undrewN {w w' : World} {S : Nat → Prop} {n : Nat} (h : Turn (w.drewN n) w' S) : Turn w w' S := ⟨h.os, h.tape, h.output, h.size, h.block⟩

set_option maxHeartbeats 4000000 in
set_option maxRecDepth 100000 in
theorem polParse_calls (l0 : List SRec) (l1 : List SCho) (A0 A1 : Option Addr) (c0 c1 : Nat) (root : Nat) (hw : SchW l0) (hb : SchB l0) (hroot : root < l0.length) (text : ByteArray) (ht : text.size ≤ 140737488351232) (w : World) (h0 : Kd.C Pf.k82 w A0 l0.length l0) :
    Calls Tryd.prog 10 #[.agg #[.slice A0 l0.length c0, .slice A1 l1.length c1, .int .i64 (root : Int)], .string text] w (PolPost w (.slice A0 l0.length c0) (.slice A1 l1.length c1) (.int .i64 (root : Int)) (polI l0 root text)) := by
  obtain ⟨w1, hw1⟩ : ∃ w1, w1 = w.alloc (Obj.cells #[.slice A0 l0.length c0, .slice A1 l1.length c1, .int .i64 (root : Int)] 32) := ⟨_, rfl⟩
  have hb1 : Below w.heap.size w w1 := by rw [hw1]; exact below1 _ _
  have bS : w1.heap[w.heap.size]? = some (.cells #[.slice A0 l0.length c0, .slice A1 l1.length c1, .int .i64 (root : Int)] 32 (0, 0)) := by rw [hw1]; exact blk_new _ _
  obtain ⟨S, hS⟩ : ∃ S, S = w.heap.size := ⟨_, rfl⟩
  rw [← hS] at bS
  have HSL := Lib.hid (show w.heap.size ≤ S by omega)
  have HB1 := Lib.hid hb1
  have HBS := Lib.hid bS
  have HSW := Lib.hid hw
  have HSB := Lib.hid hb
  have HRT := Lib.hid hroot
  have HC0 := Lib.hid h0
  have HTS := Lib.hid ht
  have hpi : polI l0 root text = match toks text ⟨#[46, 59]⟩ with
    | .error _ => none
    | .ok l => if 1024 < text.size then none else polF l0 root l (l.length + 1) 0 [] := rfl
  have HPI := Lib.hid hpi
  clear hb1 bS hw hb hroot h0 ht hpi
  generalize polI l0 root text = OUT at *
  go_enter Tryd.func10, Tryd.ntmps10
  go_upto_region 1 with (fail)
  rw [← hw1, ← hS]
  clear hw1 hS
  go_wp2_with fail
  refine (tokens_calls text ⟨#[46, 59]⟩ w1 HTS.out sg2_low).mono ?_
  intro e w2 hp
  unfold TokensPost at hp
  cases htk : toks text ⟨#[46, 59]⟩ with
  | error x =>
    obtain ⟨c, p⟩ := x
    rw [htk] at hp
    obtain ⟨hB2, rfl⟩ := hp
    have hc : c ≠ 0 := fun e => by subst e; exact toksL_err _ _ _ htk
    have HO := Lib.hid (HPI.out.trans (by rw [htk]))
    have HB2 := Lib.hid (HB1.out.trans (hB2.mono HB1.out.size))
    have hcb : (c != 0) = true := bne_iff_ne.2 hc
    clear hB2 htk hc HPI
    go_wp2_with fail
    refine bodyPost_ret (v := .tuple #[.pointer none, .int .i64 33]) (by simp [results, Tryd.results10, go_sem, *]) rfl (PolPost.bad (w := w) (HO.out) (HB2.out.alloc HB2.out.size _))
  | ok l =>
    rw [htk] at hp
    obtain ⟨hB2, v, rfl, hown⟩ := hp
    have hTW := toks_W htk
    have HTW := Lib.hid hTW
    have hO : OUT = if 1024 < text.size then none else polF l0 root l (l.length + 1) 0 [] := HPI.out.trans (by rw [htk])
    have HO := Lib.hid hO
    have HB2 := Lib.hid (HB1.out.trans (hB2.mono HB1.out.size))
    have HBS2 := Lib.hid (blk_below HBS.out hB2 (blk_lt HBS.out))
    obtain ⟨g, cg, rfl, hcg⟩ : ∃ g cg, v = .slice (some ⟨g, 0, none⟩) l.length cg ∧ l.length ≤ cg := by
      obtain ⟨A, c, rfl, hc, _⟩ := Kd.R_reads (toks_R hown)
      rw [List.length_map] at hown hc ⊢
      obtain ⟨g, hg, _⟩ := tokRow_owned hown hTW.pos
      exact ⟨g, c, by rw [hg], hc⟩
    have hTI : ToksIn w2 g l := by
      obtain ⟨g', hg, ht⟩ := tokRow_owned hown hTW.pos
      cases hg
      exact ht
    have HTI := Lib.hid hTI
    have HCG := Lib.hid hcg
    clear hB2 htk hTW hO hown HPI hTI hcg
    by_cases hz : 1024 < text.size
    · have hzd : decide ((1024 : Int) < (text.size : Int)) = true := decide_eq_true (by omega)
      have HO2 := Lib.hid (HO.out.trans (if_pos hz))
      clear hz
      go_wp2_with fail
      refine bodyPost_ret (v := .tuple #[.pointer none, .int .i64 33]) (by simp [results, Tryd.results10, go_sem, *]) rfl (PolPost.bad (w := w) (HO2.out) (HB2.out.alloc HB2.out.size _))
    · have hzd : decide ((1024 : Int) < (text.size : Int)) = false := decide_eq_false (by omega)
      have HO2 := Lib.hid (HO.out.trans (if_neg hz))
      clear hz HO
      go_upto_region 4 with (fail)
      obtain ⟨w3, hw3⟩ : ∃ w3, w3 = w2.alloc (Obj.cells #[.int .i64 0, .int .i64 0] 95) := ⟨_, rfl⟩
      have hb3 : Below w2.heap.size w2 w3 := by rw [hw3]; exact below1 _ _
      rw [← hw3]
      have HB3 := Lib.hid (HB2.out.trans (hb3.mono HB2.out.size))
      have HBS3 := Lib.hid (blk_below HBS2.out hb3 (blk_lt HBS2.out))
      have HTI3 := Lib.hid (HTI.out.kept (hb3.block g (HTI.out.lt HTW.out.pos)))
      obtain ⟨FB, hFB⟩ : ∃ FB, FB = w2.heap.size := ⟨_, rfl⟩
      rw [← hFB]
      clear hw3 hb3 hFB
      have s0 : w3.cell? ⟨S, 0, none⟩ = some (.slice A0 l0.length c0) := by rw [blk_cell HBS3.out]; rfl
      have s1 : w3.cell? ⟨S, 1, none⟩ = some (.slice A1 l1.length c1) := by rw [blk_cell HBS3.out]; rfl
      have s2 : w3.cell? ⟨S, 2, none⟩ = some (.int .i64 (root : Int)) := by rw [blk_cell HBS3.out]; rfl
      have lS := blk_lt HBS3.out
      refine wp_region_two 1 3 (.pointer (some ⟨w3.heap.size + 1, 0, none⟩)) (.pointer (some ⟨w3.heap.size + 2, 0, none⟩))
        (fun w' => w' = ((w3.drewN 1).alloc (.map #[] 0)).alloc (.cells #[.bool false, .map (some w3.heap.size)] maskT))
        (fun w' => w' = (((w3.drewN 1).alloc (.map #[] 0)).alloc (.cells #[.bool false, .map (some w3.heap.size)] maskT)).alloc (.cells #[.slice A0 l0.length c0, .slice A1 l1.length c1, .int .i64 (root : Int), .pointer (some ⟨w3.heap.size + 1, 0, none⟩)] policyT)) ?af (by as_aux_lemma => kernel_rfl) (by as_aux_lemma => kernel_rfl) (by decide) ?hc1 ?hc2 ?hwalk (by as_aux_lemma => kernel_rfl) ?hs ?ht ⟨[2, 1], by simp, by as_aux_lemma => kernel_rfl⟩ (by as_aux_lemma => kernel_rfl) ?hend
      case hwalk =>
        simp only [effL, List.lookup, Nat.reduceBEq, Nat.reduceAdd]
        have hX := BelowOf.cell w3
        (repeat (go_big_quiet_step (fail)))
        refine wpQuiet_nil ?_
        rfl
      case hc1 => rintro w' rfl; exact ((below_drewN (Below.refl _ _) 1).alloc (Nat.le_refl _) _).alloc (by simp) _
      case hc2 => rintro w' rfl; exact (((below_drewN (Below.refl _ _) 1).alloc (Nat.le_refl _) _).alloc (by simp) _).alloc (by simp; omega) _
      case hs => exact ⟨_, rfl, .inl rfl, [], (by as_aux_lemma => kernel_rfl), fun a K Q' hT hK => eff_call 33 #[] (by go_simp) _ (fun w' => w' = ((w3.drewN 1).alloc (.map #[] 0)).alloc (.cells #[.bool false, .map (some w3.heap.size)] maskT)) (empty_exact (w3.drewN 1)) (fun w' h => hK w' h)⟩
      case ht =>
        refine ⟨_, rfl, .inl rfl, [29], (by as_aux_lemma => kernel_rfl), fun a w1' K Q' hT hD hK => ?_⟩
        have e1 : a.tmps[29]?.getD undef = .agg #[.slice A0 l0.length c0, .slice A1 l1.length c1, .int .i64 (root : Int), .pointer (some ⟨w3.heap.size + 1, 0, none⟩)] := by rw [← Array.getD_eq_getD_getElem?]; exact hT 29 (by simp)
        subst hD
        refine eff_val _ (w' := (((w3.drewN 1).alloc (.map #[] 0)).alloc (.cells #[.bool false, .map (some w3.heap.size)] maskT)).alloc (.cells #[.slice A0 l0.length c0, .slice A1 l1.length c1, .int .i64 (root : Int), .pointer (some ⟨w3.heap.size + 1, 0, none⟩)] policyT)) ?_ (hK _ rfl)
        go_simp
      clear s0 s1 s2 lS
      intro w5 hD
      have hM4 := empty_msk (w3.drewN 1)
      obtain ⟨w4, hw4⟩ : ∃ w4, w4 = ((w3.drewN 1).alloc (.map #[] 0)).alloc (.cells #[.bool false, .map (some w3.heap.size)] maskT) := ⟨_, rfl⟩
      have hM4 : Msk w4 0 (newN (w3.heap.size + 1) w3.heap.size) [] := by rw [hw4]; exact hM4
      have hsz4 : w4.heap.size = w3.heap.size + 2 := by rw [hw4]; simp [World.size_alloc]
      have hB34 : Below w3.heap.size w3 w4 := by rw [hw4]; exact ((below_drewN (Below.refl _ _) 1).alloc (Nat.le_refl _) _).alloc (by simp) _
      rw [← hw4] at hD
      obtain ⟨b, hbe⟩ : ∃ b, b = w3.heap.size + 1 := ⟨_, rfl⟩
      obtain ⟨m, hme⟩ : ∃ m, m = w3.heap.size := ⟨_, rfl⟩
      have hb1 : w3.heap.size ≤ b := by omega
      have hb2 : w3.heap.size ≤ m := by omega
      rw [← hbe] at hD hM4 ⊢
      rw [← hsz4]
      rw [← hme] at hM4
      have HB4 := Lib.hid (HB3.out.trans (hB34.mono HB3.out.size))
      have hw5 : w5 = w4.alloc (Obj.cells #[.slice A0 l0.length c0, .slice A1 l1.length c1, .int .i64 (root : Int), .pointer (some ⟨b, 0, none⟩)] policyT) := hD
      clear hD hw4 hbe hme
      have hb5 : Below w4.heap.size w4 w5 := by rw [hw5]; exact below1 _ _
      have bP : w5.heap[w4.heap.size]? = some (.cells #[.slice A0 l0.length c0, .slice A1 l1.length c1, .int .i64 (root : Int), .pointer (some ⟨b, 0, none⟩)] policyT (0, 0)) := by rw [hw5]; exact blk_new _ _
      have HB5 := Lib.hid (HB4.out.trans (hb5.mono HB4.out.size))
      have hB35 : Below w3.heap.size w3 w5 := hB34.trans (hb5.mono hB34.size)
      have HBS5 := Lib.hid (blk_below HBS3.out hB35 (blk_lt HBS3.out))
      have HTI5 := Lib.hid (HTI3.out.kept (hB35.block g (HTI3.out.lt HTW.out.pos)))
      have hM5 := hM4.below hb5
      have hbl : b < w4.heap.size := hM4.lt ⟨[], _, rfl, .inl rfl⟩
      have hml : m < w4.heap.size := hM4.lt ⟨[], _, rfl, .inr rfl⟩
      have hgl := HTI3.out.lt HTW.out.pos
      have hSl := blk_lt HBS3.out
      obtain ⟨PB, hPB⟩ : ∃ PB, PB = w4.heap.size := ⟨_, rfl⟩
      rw [← hPB] at bP ⊢ hbl hml
      have HBP := Lib.hid bP
      have HM5 := Lib.hid hM5
      have HNE := Lib.hid (show S ≠ b ∧ S ≠ m ∧ g ≠ b ∧ g ≠ m ∧ PB ≠ b ∧ PB ≠ m ∧ w.heap.size ≤ b ∧ w.heap.size ≤ m from ⟨by omega, by omega, by omega, by omega, by omega, by omega, Nat.le_trans HB3.out.size hb1, Nat.le_trans HB3.out.size hb2⟩)
      have HLT := Lib.hid (show S < w5.heap.size ∧ g < w5.heap.size ∧ PB < w5.heap.size from ⟨blk_lt HBS5.out, HTI5.out.lt HTW.out.pos, blk_lt bP⟩)
      clear hw5 hPB hb5 bP hb1 hb2 hsz4 hM4 hB34 hB35 hM5 hbl hml hgl hSl
      have hI0 : PolI w5 b m (newN b m) [] w5 := ⟨HM5.out, rfl, Turn.refl _ _, fun k hk => by rcases inNew hk with h | h <;> simp [h]⟩
      have HI0 := Lib.hid hI0
      clear hI0
      go_wp2_with fail
      go_loopw [9, 10, 11, 12, 13] (fun v9 v10 v11 v12 v13 wr => ∃ (i f : Nat) (acc : List (List Int)) (N : NMap), v9 = .int .i64 (i : Int) ∧ v10 = .int .i64 (acc.length : Int) ∧ Hid (i < l.length ∧ acc.length ≤ i ∧ l.length + 1 ≤ f + i) ∧ Hid (OUT = polF l0 root l f i acc) ∧ Hid (PolI w5 b m N acc wr)) (fun v9 _ _ _ _ _ => l.length - (intOf v9).toNat)
      case atStart => exact ⟨0, l.length + 1, [], newN b m, rfl, rfl, ⟨HTW.out.pos, Nat.zero_le _, by omega⟩, HO2.out, HI0.out⟩
      case round =>
        obtain ⟨i, f, acc, N, rfl, rfl, HBD, HOF, HI⟩ := hrel
        rename World => wr
        obtain ⟨f, rfl⟩ : ∃ f', f = f' + 1 := ⟨f - 1, by have := HBD.out; omega⟩
        have HBr := Lib.hid (HI.out.below HB5.out HNE.out.2.2.2.2.2.2)
        have bSr := (HI.out.turn.block S HLT.out.1 (by have := HNE.out; omega)).trans HBS5.out
        have bPr := (HI.out.turn.block PB HLT.out.2.2 (by have := HNE.out; omega)).trans HBP.out
        have hTr := HTI5.out.kept (HI.out.turn.block g HLT.out.2.1 (by have := HNE.out; omega))
        have HTr := Lib.hid hTr
        have HBSr := Lib.hid bSr
        have HBPr := Lib.hid bPr
        have hi := HBD.out.1
        have hiI : (i : Int) < (l.length : Int) := by omega
        obtain ⟨z0, z1, z2⟩ := hTr i hi
        rw [show ((l[i]?).getD tok0).kind = kindT l i from rfl] at z0
        rw [show ((l[i]?).getD tok0).text = textT l i from rfl] at z1
        have lg := hTr.lt HTW.out.pos
        have hlm := HTW.out.most
        have hlI : (l.length : Int) ≤ 2048 := by omega
        have hOF := HOF.out
        simp only [polF] at hOF
        clear bSr bPr hTr z2 hlm hi
        by_cases e0 : kindT l i = 0
        · rw [if_pos e0] at hOF
          have HOF2 := Lib.hid hOF
          rw [e0] at z0
          clear hOF e0
          go_wp2_with fail
          refine bodyPost_ret (v := .tuple #[.pointer (some ⟨PB, 0, none⟩), .int .i64 0]) (by simp [results, Tryd.results10, go_sem, *]) rfl ⟨fun h => (by rw [HOF2.out] at h; cases h), fun W hW => ?_, HBr.out⟩
          rw [HOF2.out] at hW
          cases hW
          exact ⟨_, rfl, ⟨PB, b, m, _, N, rfl, HBPr.out, HI.out.msk, HI.out.root, by have := HBD.out; have := HTW.out.most; omega⟩⟩
        · rw [if_neg e0] at hOF
          have HE0 := Lib.hid e0
          have e0b : (kindT l i != 0) = true := bne_iff_ne.2 e0
          have HZ := Lib.hid (And.intro z0 (And.intro z1 lg))
          have ht5 := eqS_list (textT l i) cHide
          rw [cHide_list] at ht5
          clear e0
          by_cases e1 : kindT l i = 1
          · have e1b : (kindT l i != 1) = false := by rw [e1]; rfl
            cases e2 : eqS (textT l i) cHide with
            | false =>
              rw [e2] at ht5
              have ht6 : (textT l i).toList ≠ [104, 105, 100, 101] := fun h => by rw [h] at ht5; cases ht5
              rw [if_neg (fun h => by rw [e2] at h; cases h.2.1)] at hOF
              have HOF2 := Lib.hid hOF
              clear hOF e1 e2
              go_wp2_with fail
              refine bodyPost_ret (v := .tuple #[.pointer none, .int .i64 33]) (by simp [results, Tryd.results10, go_sem, *]) rfl (PolPost.bad (w := w) (HOF2.out) (HBr.out))
            | true =>
              rw [e2] at ht5
              by_cases e3 : acc.length < 16
              · have e3b : decide ((16 : Int) ≤ (acc.length : Int)) = false := decide_eq_false (by omega)
                rw [if_pos ⟨e1, e2, e3⟩] at hOF
                have HOF2 := Lib.hid hOF
                have hw64 : wrap64 ((i : Int) + 1) = ((i + 1 : Nat) : Int) := by
                  rw [show ((i : Int) + 1) = ((i + 1 : Nat) : Int) from rfl]
                  exact w64 (by have := HBD.out.1; have := HTW.out.most; omega)
                clear hOF e1 e2 e3
                obtain ⟨⟨r1, r2, r3⟩, hr, ho⟩ := names_is l (by omega) (i + 1) (by have := HBD.out.1; omega) HTW.out.pos
                have hcl := Pf.mask_Names.calls _ (some ⟨g, 0, none⟩) cg (l.map tT) ((i + 1 : Nat) : Int) r1 r2 r3 wr (toksIn_C HTr.out (by omega)) (by rw [List.length_map]; exact HCG.out) hr
                rw [List.length_map] at hcl
                have HCL := Lib.hid hcl
                have HO1 := Lib.hid ho
                clear hr hcl ho
                go_wp2_with fail
                refine HCL.out.mono ?_
                rintro e w6 ⟨v0, rfl, hnr, hB6⟩
                have HB6 := Lib.hid (HBr.out.trans (hB6.mono HBr.out.size))
                have HI6 := Lib.hid (HI.out.run hB6)
                have HBS6 := Lib.hid (blk_below HBSr.out hB6 (blk_lt HBSr.out))
                have HBP6 := Lib.hid (blk_below HBPr.out hB6 (blk_lt HBPr.out))
                have HT6 := Lib.hid (HTr.out.kept (hB6.block g (HTr.out.lt HTW.out.pos)))
                obtain ⟨An, cn, hv0, hcn, hnC⟩ := Kd.R_reads hnr
                have HNC := Lib.hid (And.intro hcn hnC)
                clear hnr hB6 hcn hnC z0 z1 lg HCL
                cases hnm : namesT l (i + 1) with
                | none =>
                  have h3 : r3 = false := by have := HO1.out; rw [hnm] at this; exact this.2
                  subst h3
                  have hOF := HOF2.out
                  rw [hnm] at hOF
                  have HOF3 := Lib.hid hOF
                  clear hOF hnm
                  go_upto_region 11 with (fail)
                  go_quiet (fail)
                  go_wp2_with fail
                  refine bodyPost_ret (v := .tuple #[.pointer none, .int .i64 33]) (by simp [results, Tryd.results10, go_sem, *]) rfl (PolPost.bad (w := w) (HOF3.out) (below_drewN HB6.out _))
                | some x =>
                  obtain ⟨nm, n⟩ := x
                  have ho := HO1.out
                  rw [hnm] at ho
                  have ho : ((r1, r2, r3) : List ByteArray × Int × Bool) = ([] ++ nm, (n : Int), true) := ho
                  simp only [Prod.mk.injEq, List.nil_append] at ho
                  obtain ⟨ho1, rfl, rfl⟩ := ho
                  obtain rfl : nm = r1 := ho1.symm
                  have hbd := namesF_bd _ _ hnm
                  have HNB := Lib.hid hbd
                  have hOF := HOF2.out
                  rw [hnm] at hOF
                  simp only at hOF
                  have HOF3 := Lib.hid hOF
                  subst hv0
                  have hnl := namesF_lt HTW.out _ _ hnm
                  have HNL := Lib.hid hnl
                  clear hOF hnm hbd
                  obtain ⟨y0, y1, _⟩ := HT6.out n hnl
                  rw [show ((l[n]?).getD tok0).kind = kindT l n from rfl] at y0
                  rw [show ((l[n]?).getD tok0).text = textT l n from rfl] at y1
                  have hnI : (n : Int) < (l.length : Int) := by omega
                  have lg := HT6.out.lt HTW.out.pos
                  have s0 : w6.cell? ⟨S, 0, none⟩ = some (.slice A0 l0.length c0) := by rw [blk_cell HBS6.out]; rfl
                  have s1 : w6.cell? ⟨S, 1, none⟩ = some (.slice A1 l1.length c1) := by rw [blk_cell HBS6.out]; rfl
                  have s2 : w6.cell? ⟨S, 2, none⟩ = some (.int .i64 (root : Int)) := by rw [blk_cell HBS6.out]; rfl
                  have lS := blk_lt HBS6.out
                  have p3 : w6.cell? ⟨PB, 3, none⟩ = some (.pointer (some ⟨b, 0, none⟩)) := by rw [blk_cell HBP6.out]; rfl
                  have lP := blk_lt HBP6.out
                  have hns : ¬ InMsk N S ∧ ¬ InMsk N g ∧ ¬ InMsk N PB := ⟨fun h => by have := HI.out.blocks S h; have := HNE.out; have := HLT.out; omega, fun h => by have := HI.out.blocks g h; have := HNE.out; have := HLT.out; omega, fun h => by have := HI.out.blocks PB h; have := HNE.out; have := HLT.out; omega⟩
                  obtain ⟨hns1, hns2, hns3⟩ := hns
                  have hadd := add_calls l0 l1 A0 A1 c0 c1 (root : Int) HSW.out nm root An cn (w6.drewN 1) acc.length N acc b m HRT.out (Kd.C_below HC0.out (below_drewN HB6.out 1)) (HNC.out.2) HNC.out.1 (by have := HBD.out; have := HTW.out.most; show acc.length < 9223372036854775807; omega) (HI6.out.msk.kept fun _ _ => rfl) HI6.out.root
                  have HADD := Lib.hid hadd
                  clear hnl hadd
                  cases hwy : wayI l0 nm root with
                  | none =>
                    have HFD := Lib.hid (show OUT = none from HOF3.out.trans (by rw [hwy]; split <;> rfl))
                    go_upto_region 11 with (fail)
                    refine wp_region_one 11 (.bool false) (InMsk N) (fun w' => Below w6.heap.size w6 w') ?afN (by as_aux_lemma => kernel_rfl) (by as_aux_lemma => kernel_rfl) (fun w' h => Turn.of_below h _) ?hwalkN (by as_aux_lemma => kernel_rfl) ?hsN (by as_aux_lemma => kernel_rfl) ?hendN
                    case hwalkN =>
                      simp only [effL, List.lookup, Nat.reduceBEq, Nat.reduceAdd]
                      have hX := TurnOf.cell w6 (InMsk N)
                      (repeat (go_big_quiet_step (fail)))
                      refine wpQuiet_nil ?_
                      rfl
                    case hsN =>
                      refine ⟨_, rfl, .inr ⟨2, false, 67, rfl, rfl, (by as_aux_lemma => kernel_rfl), rfl⟩, [71, 72, 74, 75], (by as_aux_lemma => kernel_rfl), fun a K Q' hT hK => ?_⟩
                      have e71 : a.tmps[71]?.getD undef = .pointer (some ⟨b, 0, none⟩) := by rw [← Array.getD_eq_getD_getElem?]; exact hT 71 (by simp)
                      have e72 : a.tmps[72]?.getD undef = .agg #[.slice A0 l0.length c0, .slice A1 l1.length c1, .int .i64 (root : Int)] := by rw [← Array.getD_eq_getD_getElem?]; exact hT 72 (by simp)
                      have e74 : a.tmps[74]?.getD undef = .int .i64 (root : Int) := by rw [← Array.getD_eq_getD_getElem?]; exact hT 74 (by simp)
                      have e75 : a.tmps[75]?.getD undef = .slice An nm.length cn := by rw [← Array.getD_eq_getD_getElem?]; exact hT 75 (by simp)
                      exact eff_call 35 #[.pointer (some ⟨b, 0, none⟩), .agg #[.slice A0 l0.length c0, .slice A1 l1.length c1, .int .i64 (root : Int)], .int .i64 (root : Int), .slice An nm.length cn] (by go_simp) _ (fun w' => Below w6.heap.size w6 w') ((HADD.out.mono fun e w' h => ⟨(h.no hwy).1, (below_drewN (Below.refl _ _) 1).trans ((h.no hwy).2)⟩)) (fun w' h => hK w' h)
                    intro w7 hB7
                    have HB7 := Lib.hid (HB6.out.trans (hB7.mono HB6.out.size))
                    clear hB7 y0 y1 lg s0 s1 s2 lS p3 lP
                    go_wp2_with fail
                    refine bodyPost_ret (v := .tuple #[.pointer none, .int .i64 33]) (by simp [results, Tryd.results10, go_sem, *]) rfl (PolPost.bad (w := w) (HFD.out) (HB7.out))
                  | some wy =>
                    have hw64n : wrap64 ((n : Int) + 1) = ((n + 1 : Nat) : Int) := by
                      rw [show ((n : Int) + 1) = ((n + 1 : Nat) : Int) from rfl]
                      exact w64 (by have := HNL.out; have := HTW.out.most; omega)
                    have hw64a : wrap64 ((acc.length : Int) + 1) = ((acc.length + 1 : Nat) : Int) := by
                      rw [show ((acc.length : Int) + 1) = ((acc.length + 1 : Nat) : Int) from rfl]
                      exact w64 (by have := HBD.out; have := HTW.out.most; omega)
                    have hys : (sigT l n cSem = true → OUT = polF l0 root l f (n + 1) (acc ++ [wy])) ∧ (sigT l n cSem = false → OUT = none) := by
                      refine ⟨fun h => ?_, fun h => ?_⟩
                      · rw [HOF3.out, if_pos h, hwy]
                      · rw [HOF3.out, if_neg (by rw [h]; simp)]
                    have HYS := Lib.hid hys
                    have HWY := Lib.hid hwy
                    have hsg : sigT l n cSem = (decide (kindT l n = 4) && eqS (textT l n) cSem) := by rw [sigT_lt HNL.out, kindT_lt HNL.out, textT_lt HNL.out]
                    have ht7 := eqS_list (textT l n) cSem
                    rw [cSem_list] at ht7
                    clear hys hwy
                    by_cases k4 : kindT l n = 4
                    · have k4b : (kindT l n != 4) = false := by rw [k4]; rfl
                      cases e5 : eqS (textT l n) cSem with
                      | true =>
                        rw [e5] at ht7
                        have HSG := Lib.hid (show sigT l n cSem = true by rw [hsg, e5, decide_eq_true k4]; rfl)
                        clear hsg k4 e5
                        go_upto_region 11 with (fail)
                        refine wp_region_one 11 (.bool true) (InMsk N) (fun w' => ∃ N', Msk w' (acc.length + 1) N' (acc ++ [wy]) ∧ N' [] = N [] ∧ (∀ p y, N' p = some y → N p = some y ∨ (w6.heap.size ≤ y.1 ∧ w6.heap.size ≤ y.2)) ∧ Turn w6 w' (InMsk N)) ?afY1 (by as_aux_lemma => kernel_rfl) (by as_aux_lemma => kernel_rfl) (fun w' h => by obtain ⟨_, _, _, _, h⟩ := h; exact h) ?hwalkY1 (by as_aux_lemma => kernel_rfl) ?hsY1 (by as_aux_lemma => kernel_rfl) ?hendY1
                        case hwalkY1 =>
                          simp only [effL, List.lookup, Nat.reduceBEq, Nat.reduceAdd]
                          have hX := TurnOf.cell w6 (InMsk N)
                          (repeat (go_big_quiet_step (fail)))
                          refine wpQuiet_nil ?_
                          rfl
                        case hsY1 =>
                          refine ⟨_, rfl, .inr ⟨2, false, 67, rfl, rfl, (by as_aux_lemma => kernel_rfl), rfl⟩, [71, 72, 74, 75], (by as_aux_lemma => kernel_rfl), fun a K Q' hT hK => ?_⟩
                          have e71 : a.tmps[71]?.getD undef = .pointer (some ⟨b, 0, none⟩) := by rw [← Array.getD_eq_getD_getElem?]; exact hT 71 (by simp)
                          have e72 : a.tmps[72]?.getD undef = .agg #[.slice A0 l0.length c0, .slice A1 l1.length c1, .int .i64 (root : Int)] := by rw [← Array.getD_eq_getD_getElem?]; exact hT 72 (by simp)
                          have e74 : a.tmps[74]?.getD undef = .int .i64 (root : Int) := by rw [← Array.getD_eq_getD_getElem?]; exact hT 74 (by simp)
                          have e75 : a.tmps[75]?.getD undef = .slice An nm.length cn := by rw [← Array.getD_eq_getD_getElem?]; exact hT 75 (by simp)
                          exact eff_call 35 #[.pointer (some ⟨b, 0, none⟩), .agg #[.slice A0 l0.length c0, .slice A1 l1.length c1, .int .i64 (root : Int)], .int .i64 (root : Int), .slice An nm.length cn] (by go_simp) _ (fun w' => ∃ N', Msk w' (acc.length + 1) N' (acc ++ [wy]) ∧ N' [] = N [] ∧ (∀ p y, N' p = some y → N p = some y ∨ (w6.heap.size ≤ y.1 ∧ w6.heap.size ≤ y.2)) ∧ Turn w6 w' (InMsk N)) ((HADD.out.mono fun e w' h => by obtain ⟨h1, N', h2, h3, h4, h5⟩ := h.yes wy HWY.out; exact ⟨h1, N', h2, h3, h4, h5.undrewN⟩)) (fun w' h => hK w' h)
                        rintro w7 ⟨N', hM7, hr7, hn7, hT7⟩
                        have HI7 := Lib.hid (HI6.out.add hM7 hr7 hn7 hT7)
                        clear hM7 hr7 hn7 hT7
                        clear y0 y1 lg s0 s1 s2 lS p3 lP
                        go_wp2_with fail
                        go_roundw
                        case rel => exact ⟨n + 1, f, acc ++ [wy], N', by go_num, by rw [List.length_append, List.length_singleton, hw64a], ⟨by have := HTW.out.before HNL.out (by rw [sigT_kind HSG.out]; decide); omega, by have := HNB.out; have := HBD.out; rw [List.length_append, List.length_singleton]; omega, by have := HNB.out; have := HBD.out; omega⟩, HYS.out.1 HSG.out, HI7.out⟩
                        case measure => have := HNB.out; have := HNL.out; simp [intOf]; omega
                      | false =>
                        rw [e5] at ht7
                        have ht8 : (textT l n).toList ≠ [59] := fun h => by rw [h] at ht7; cases ht7
                        have HSG := Lib.hid (show sigT l n cSem = false by rw [hsg, e5, Bool.and_false])
                        clear hsg k4 e5
                        go_upto_region 11 with (fail)
                        refine wp_region_one 11 (.bool true) (InMsk N) (fun w' => ∃ N', Msk w' (acc.length + 1) N' (acc ++ [wy]) ∧ N' [] = N [] ∧ (∀ p y, N' p = some y → N p = some y ∨ (w6.heap.size ≤ y.1 ∧ w6.heap.size ≤ y.2)) ∧ Turn w6 w' (InMsk N)) ?afY2 (by as_aux_lemma => kernel_rfl) (by as_aux_lemma => kernel_rfl) (fun w' h => by obtain ⟨_, _, _, _, h⟩ := h; exact h) ?hwalkY2 (by as_aux_lemma => kernel_rfl) ?hsY2 (by as_aux_lemma => kernel_rfl) ?hendY2
                        case hwalkY2 =>
                          simp only [effL, List.lookup, Nat.reduceBEq, Nat.reduceAdd]
                          have hX := TurnOf.cell w6 (InMsk N)
                          (repeat (go_big_quiet_step (fail)))
                          refine wpQuiet_nil ?_
                          rfl
                        case hsY2 =>
                          refine ⟨_, rfl, .inr ⟨2, false, 67, rfl, rfl, (by as_aux_lemma => kernel_rfl), rfl⟩, [71, 72, 74, 75], (by as_aux_lemma => kernel_rfl), fun a K Q' hT hK => ?_⟩
                          have e71 : a.tmps[71]?.getD undef = .pointer (some ⟨b, 0, none⟩) := by rw [← Array.getD_eq_getD_getElem?]; exact hT 71 (by simp)
                          have e72 : a.tmps[72]?.getD undef = .agg #[.slice A0 l0.length c0, .slice A1 l1.length c1, .int .i64 (root : Int)] := by rw [← Array.getD_eq_getD_getElem?]; exact hT 72 (by simp)
                          have e74 : a.tmps[74]?.getD undef = .int .i64 (root : Int) := by rw [← Array.getD_eq_getD_getElem?]; exact hT 74 (by simp)
                          have e75 : a.tmps[75]?.getD undef = .slice An nm.length cn := by rw [← Array.getD_eq_getD_getElem?]; exact hT 75 (by simp)
                          exact eff_call 35 #[.pointer (some ⟨b, 0, none⟩), .agg #[.slice A0 l0.length c0, .slice A1 l1.length c1, .int .i64 (root : Int)], .int .i64 (root : Int), .slice An nm.length cn] (by go_simp) _ (fun w' => ∃ N', Msk w' (acc.length + 1) N' (acc ++ [wy]) ∧ N' [] = N [] ∧ (∀ p y, N' p = some y → N p = some y ∨ (w6.heap.size ≤ y.1 ∧ w6.heap.size ≤ y.2)) ∧ Turn w6 w' (InMsk N)) ((HADD.out.mono fun e w' h => by obtain ⟨h1, N', h2, h3, h4, h5⟩ := h.yes wy HWY.out; exact ⟨h1, N', h2, h3, h4, h5.undrewN⟩)) (fun w' h => hK w' h)
                        rintro w7 ⟨N', hM7, hr7, hn7, hT7⟩
                        have HI7 := Lib.hid (HI6.out.add hM7 hr7 hn7 hT7)
                        clear hM7 hr7 hn7 hT7
                        clear y0 y1 lg s0 s1 s2 lS p3 lP
                        go_wp2_with fail
                        refine bodyPost_ret (v := .tuple #[.pointer none, .int .i64 33]) (by simp [results, Tryd.results10, go_sem, *]) rfl (PolPost.bad (w := w) ((HYS.out.2 HSG.out)) ((HI7.out.below HB5.out HNE.out.2.2.2.2.2.2)))
                    · have k4b : (kindT l n != 4) = true := bne_iff_ne.2 k4
                      have HSG := Lib.hid (show sigT l n cSem = false by rw [hsg, decide_eq_false k4, Bool.false_and])
                      clear hsg k4
                      go_upto_region 11 with (fail)
                      refine wp_region_one 11 (.bool true) (InMsk N) (fun w' => ∃ N', Msk w' (acc.length + 1) N' (acc ++ [wy]) ∧ N' [] = N [] ∧ (∀ p y, N' p = some y → N p = some y ∨ (w6.heap.size ≤ y.1 ∧ w6.heap.size ≤ y.2)) ∧ Turn w6 w' (InMsk N)) ?afY3 (by as_aux_lemma => kernel_rfl) (by as_aux_lemma => kernel_rfl) (fun w' h => by obtain ⟨_, _, _, _, h⟩ := h; exact h) ?hwalkY3 (by as_aux_lemma => kernel_rfl) ?hsY3 (by as_aux_lemma => kernel_rfl) ?hendY3
                      case hwalkY3 =>
                        simp only [effL, List.lookup, Nat.reduceBEq, Nat.reduceAdd]
                        have hX := TurnOf.cell w6 (InMsk N)
                        (repeat (go_big_quiet_step (fail)))
                        refine wpQuiet_nil ?_
                        rfl
                      case hsY3 =>
                        refine ⟨_, rfl, .inr ⟨2, false, 67, rfl, rfl, (by as_aux_lemma => kernel_rfl), rfl⟩, [71, 72, 74, 75], (by as_aux_lemma => kernel_rfl), fun a K Q' hT hK => ?_⟩
                        have e71 : a.tmps[71]?.getD undef = .pointer (some ⟨b, 0, none⟩) := by rw [← Array.getD_eq_getD_getElem?]; exact hT 71 (by simp)
                        have e72 : a.tmps[72]?.getD undef = .agg #[.slice A0 l0.length c0, .slice A1 l1.length c1, .int .i64 (root : Int)] := by rw [← Array.getD_eq_getD_getElem?]; exact hT 72 (by simp)
                        have e74 : a.tmps[74]?.getD undef = .int .i64 (root : Int) := by rw [← Array.getD_eq_getD_getElem?]; exact hT 74 (by simp)
                        have e75 : a.tmps[75]?.getD undef = .slice An nm.length cn := by rw [← Array.getD_eq_getD_getElem?]; exact hT 75 (by simp)
                        exact eff_call 35 #[.pointer (some ⟨b, 0, none⟩), .agg #[.slice A0 l0.length c0, .slice A1 l1.length c1, .int .i64 (root : Int)], .int .i64 (root : Int), .slice An nm.length cn] (by go_simp) _ (fun w' => ∃ N', Msk w' (acc.length + 1) N' (acc ++ [wy]) ∧ N' [] = N [] ∧ (∀ p y, N' p = some y → N p = some y ∨ (w6.heap.size ≤ y.1 ∧ w6.heap.size ≤ y.2)) ∧ Turn w6 w' (InMsk N)) ((HADD.out.mono fun e w' h => by obtain ⟨h1, N', h2, h3, h4, h5⟩ := h.yes wy HWY.out; exact ⟨h1, N', h2, h3, h4, h5.undrewN⟩)) (fun w' h => hK w' h)
                      rintro w7 ⟨N', hM7, hr7, hn7, hT7⟩
                      have HI7 := Lib.hid (HI6.out.add hM7 hr7 hn7 hT7)
                      clear hM7 hr7 hn7 hT7
                      clear y0 y1 lg s0 s1 s2 lS p3 lP
                      go_wp2_with fail
                      refine bodyPost_ret (v := .tuple #[.pointer none, .int .i64 33]) (by simp [results, Tryd.results10, go_sem, *]) rfl (PolPost.bad (w := w) ((HYS.out.2 HSG.out)) ((HI7.out.below HB5.out HNE.out.2.2.2.2.2.2)))
              · have e3b : decide ((16 : Int) ≤ (acc.length : Int)) = true := decide_eq_true (by omega)
                rw [if_neg (fun h => e3 h.2.2)] at hOF
                have HOF2 := Lib.hid hOF
                clear hOF e1 e2 e3
                go_wp2_with fail
                refine bodyPost_ret (v := .tuple #[.pointer none, .int .i64 33]) (by simp [results, Tryd.results10, go_sem, *]) rfl (PolPost.bad (w := w) (HOF2.out) (HBr.out))
          · have e1b : (kindT l i != 1) = true := bne_iff_ne.2 e1
            rw [if_neg (fun h => e1 h.1)] at hOF
            have HOF2 := Lib.hid hOF
            clear hOF e1
            go_wp2_with fail
            refine bodyPost_ret (v := .tuple #[.pointer none, .int .i64 33]) (by simp [results, Tryd.results10, go_sem, *]) rfl (PolPost.bad (w := w) (HOF2.out) (HBr.out))

end Go.Proofs.YtejpjclbeogajaaDoor

/-
  mask.Of, mask.Parse: a mask of tokens, of a text.
-/
namespace Go.Proofs.YtejpjclbeogajaaDoor
open Go.RowKit
open Go.Proofs.YtejpjclbeogajaaDoorP
open Go.Proofs.YtejpjclbeogajaaDoorW.PrintWords (Kd)
set_option linter.unusedVariables false
set_option linter.unusedSimpArgs false

def cCom : ByteArray := ⟨#[44]⟩
theorem cCom_list : cCom.toList = [44] := by rw [Go.ByteArray.toList_eq]; rfl
/-- the ways that are listed, from a place on -/
def mskF (l0 : List SRec) (root : Nat) (l : List Tok) : Nat → Nat → List (List Int) → Option (List (List Int))
  | 0, _, _ => none
  | f + 1, i, acc => match namesT l i with
    | none => none
    | some (nm, n) => if acc.length < 16 then (match wayI l0 nm root with
      | none => none
      | some w => if kindT l n = 0 then some (acc ++ [w]) else if sigT l n cCom = true then mskF l0 root l f (n + 1) (acc ++ [w]) else none) else none
def mskO (l0 : List SRec) (root : Nat) (l : List Tok) : Option (List (List Int)) := mskF l0 root l (l.length + 1) 0 []
def mskI (l0 : List SRec) (root : Nat) (text : ByteArray) : Option (List (List Int)) := match toks text ⟨#[46, 44]⟩ with
  | .error _ => none
  | .ok l => if 1024 < text.size then none else mskO l0 root l

/-- what a mask's reading comes to -/
structure MskPost (w : World) (o : Option (List (List Int))) (e : Ending) (w' : World) : Prop where
  no : o = none → e = .returned (.tuple #[.pointer none, .int .i64 30])
  yes : ∀ W, o = some W → ∃ b m n N, e = .returned (.tuple #[.pointer (some ⟨b, 0, none⟩), .int .i64 0]) ∧ Msk w' n N W ∧ N [] = some (b, m) ∧ n ≤ 5000
  below : Below w.heap.size w w'
theorem MskPost.bad {w w' : World} {o : Option (List (List Int))} (h : o = none) (hb : Below w.heap.size w w') : MskPost w o (.returned (.tuple #[.pointer none, .int .i64 30])) w' :=
  ⟨fun _ => rfl, fun W hW => (by rw [h] at hW; cases hW), hb⟩

set_option maxHeartbeats 4000000 in
set_option maxRecDepth 100000 in
theorem mskOf_calls (l0 : List SRec) (l1 : List SCho) (A0 A1 : Option Addr) (c0 c1 : Nat) (root : Nat) (hw : SchW l0) (hb : SchB l0) (hroot : root < l0.length) (l : List Tok) (g cg : Nat) (hTW : TokW l) (hcg : l.length ≤ cg) (w : World) (h0 : Kd.C Pf.k82 w A0 l0.length l0) (hTI : ToksIn w g l) :
    Calls Tryd.prog 49 #[.agg #[.slice A0 l0.length c0, .slice A1 l1.length c1, .int .i64 (root : Int)], .slice (some ⟨g, 0, none⟩) l.length cg] w (MskPost w (mskO l0 root l)) := by
  obtain ⟨w1, hw1⟩ : ∃ w1, w1 = w.alloc (Obj.cells #[.slice A0 l0.length c0, .slice A1 l1.length c1, .int .i64 (root : Int)] 32) := ⟨_, rfl⟩
  have hb1 : Below w.heap.size w w1 := by rw [hw1]; exact below1 _ _
  have bS : w1.heap[w.heap.size]? = some (.cells #[.slice A0 l0.length c0, .slice A1 l1.length c1, .int .i64 (root : Int)] 32 (0, 0)) := by rw [hw1]; exact blk_new _ _
  obtain ⟨S, hS⟩ : ∃ S, S = w.heap.size := ⟨_, rfl⟩
  rw [← hS] at bS
  have HSL := Lib.hid (show w.heap.size ≤ S by omega)
  have HB1 := Lib.hid hb1
  have HBS := Lib.hid bS
  have HSW := Lib.hid hw
  have HSB := Lib.hid hb
  have HRT := Lib.hid hroot
  have HC0 := Lib.hid h0
  have HTW := Lib.hid hTW
  have HCG := Lib.hid hcg
  have hgl := hTI.lt hTW.pos
  have HTI1 := Lib.hid (hTI.kept (hb1.block g hgl))
  have HGL := Lib.hid hgl
  have hpi : mskO l0 root l = mskF l0 root l (l.length + 1) 0 [] := rfl
  have HPI := Lib.hid hpi
  clear hb1 bS hw hb hroot h0 hpi hTW hcg hTI hgl
  generalize mskO l0 root l = OUT at *
  go_enter Tryd.func49, Tryd.ntmps49
  go_upto_region 1 with (fail)
  rw [← hw1, ← hS]
  clear hw1 hS
  go_wp2_with fail
  refine (empty_calls w1).mono ?_
  rintro e w5 ⟨b, m, rfl, hb1, hb2, hB5, hM5⟩
  rw [show ptrV (some b) = .pointer (some ⟨b, 0, none⟩) from rfl]
  have HB5 := Lib.hid (HB1.out.trans (hB5.mono HB1.out.size))
  have HBS5 := Lib.hid (blk_below HBS.out hB5 (blk_lt HBS.out))
  have HTI5 := Lib.hid (HTI1.out.kept (hB5.block g (HTI1.out.lt HTW.out.pos)))
  have hz1 := HB1.out.size
  have hSl := blk_lt HBS.out
  have HNE := Lib.hid (show S ≠ b ∧ S ≠ m ∧ g ≠ b ∧ g ≠ m ∧ w.heap.size ≤ b ∧ w.heap.size ≤ m from ⟨by omega, by omega, by have := HGL.out; omega, by have := HGL.out; omega, by omega, by omega⟩)
  have HLT := Lib.hid (show S < w5.heap.size ∧ g < w5.heap.size from ⟨blk_lt HBS5.out, HTI5.out.lt HTW.out.pos⟩)
  have HI0 := Lib.hid (show PolI w5 b m (newN b m) [] w5 from ⟨hM5, rfl, Turn.refl _ _, fun k hk => by rcases inNew hk with h | h <;> simp [h]⟩)
  clear hb1 hb2 hB5 hM5 hz1 hSl
  go_wp2_with fail
  go_loopw [7, 8, 9, 10, 11] (fun v7 v8 v9 v10 v11 wr => ∃ (i f : Nat) (acc : List (List Int)) (N : NMap), v7 = .int .i64 (i : Int) ∧ v8 = .int .i64 ((acc.length + 1 : Nat) : Int) ∧ Hid (i ≤ l.length ∧ acc.length ≤ i ∧ l.length + 2 ≤ f + i + 1) ∧ Hid (OUT = mskF l0 root l f i acc) ∧ Hid (PolI w5 b m N acc wr)) (fun v7 _ _ _ _ _ => l.length + 1 - (intOf v7).toNat)
  case atStart => exact ⟨0, l.length + 1, [], newN b m, rfl, rfl, ⟨Nat.zero_le _, Nat.zero_le _, by omega⟩, HPI.out, HI0.out⟩
  case round =>
    obtain ⟨i, f, acc, N, rfl, rfl, HBD, HOF, HI⟩ := hrel
    rename World => wr
    obtain ⟨f, rfl⟩ : ∃ f', f = f' + 1 := ⟨f - 1, by have := HBD.out; omega⟩
    have HBr := Lib.hid (HI.out.below HB5.out HNE.out.2.2.2.2)
    have bSr := (HI.out.turn.block S HLT.out.1 (by have := HNE.out; omega)).trans HBS5.out
    have hTr := HTI5.out.kept (HI.out.turn.block g HLT.out.2 (by have := HNE.out; omega))
    have HTr := Lib.hid hTr
    have HBSr := Lib.hid bSr
    have lg := hTr.lt HTW.out.pos
    have hlm := HTW.out.most
    have hlI : (l.length : Int) ≤ 2048 := by omega
    have hOF := HOF.out
    simp only [mskF] at hOF
    have HOF2 := Lib.hid hOF
    obtain ⟨⟨r1, r2, r3⟩, hr, ho⟩ := names_is l (by omega) i (by have := HBD.out.1; omega) HTW.out.pos
    have hcl := Pf.mask_Names.calls _ (some ⟨g, 0, none⟩) cg (l.map tT) (i : Int) r1 r2 r3 wr (toksIn_C HTr.out (by omega)) (by rw [List.length_map]; exact HCG.out) hr
    rw [List.length_map] at hcl
    have HCL := Lib.hid hcl
    have HO1 := Lib.hid ho
    clear bSr hTr hlm hOF hr hcl ho
    go_wp2_with fail
    refine HCL.out.mono ?_
    rintro e w6 ⟨v0, rfl, hnr, hB6⟩
    have HB6 := Lib.hid (HBr.out.trans (hB6.mono HBr.out.size))
    have HI6 := Lib.hid (HI.out.run hB6)
    have HBS6 := Lib.hid (blk_below HBSr.out hB6 (blk_lt HBSr.out))
    have HT6 := Lib.hid (HTr.out.kept (hB6.block g (HTr.out.lt HTW.out.pos)))
    obtain ⟨An, cn, hv0, hcn, hnC⟩ := Kd.R_reads hnr
    have HNC := Lib.hid (And.intro hcn hnC)
    clear hnr hB6 hcn hnC lg HCL
    cases hnm : namesT l i with
    | none =>
      have h3 : r3 = false := by have := HO1.out; rw [hnm] at this; exact this.2
      subst h3
      have hOF := HOF2.out
      rw [hnm] at hOF
      have HOF3 := Lib.hid hOF
      clear hOF hnm
      go_wp2_with fail
      refine bodyPost_ret (v := .tuple #[.pointer none, .int .i64 30]) (by simp [results, Tryd.results49, go_sem, *]) rfl (MskPost.bad (w := w) (HOF3.out) (HB6.out))
    | some x =>
      obtain ⟨nm, n⟩ := x
      have ho := HO1.out
      rw [hnm] at ho
      have ho : ((r1, r2, r3) : List ByteArray × Int × Bool) = ([] ++ nm, (n : Int), true) := ho
      simp only [Prod.mk.injEq, List.nil_append] at ho
      obtain ⟨ho1, rfl, rfl⟩ := ho
      obtain rfl : nm = r1 := ho1.symm
      have hbd := namesF_bd _ _ hnm
      have HNB := Lib.hid hbd
      have hOF := HOF2.out
      rw [hnm] at hOF
      simp only at hOF
      have HOF3 := Lib.hid hOF
      subst hv0
      have hnl := namesF_lt HTW.out _ _ hnm
      have HNL := Lib.hid hnl
      clear hOF hnm hbd
      by_cases h16 : acc.length < 16
      · have e16 : decide ((16 : Int) < ((acc.length + 1 : Nat) : Int)) = false := decide_eq_false (by omega)
        have e16b : decide ((16 : Int) < (acc.length : Int) + 1) = false := decide_eq_false (by omega)
        have hOF := HOF3.out
        rw [if_pos h16] at hOF
        have HOF4 := Lib.hid hOF
        clear hOF h16
        obtain ⟨y0, y1, _⟩ := HT6.out n hnl
        rw [show ((l[n]?).getD tok0).kind = kindT l n from rfl] at y0
        rw [show ((l[n]?).getD tok0).text = textT l n from rfl] at y1
        have hnI : (n : Int) < (l.length : Int) := by omega
        have lg := HT6.out.lt HTW.out.pos
        have s0 : w6.cell? ⟨S, 0, none⟩ = some (.slice A0 l0.length c0) := by rw [blk_cell HBS6.out]; rfl
        have s1 : w6.cell? ⟨S, 1, none⟩ = some (.slice A1 l1.length c1) := by rw [blk_cell HBS6.out]; rfl
        have s2 : w6.cell? ⟨S, 2, none⟩ = some (.int .i64 (root : Int)) := by rw [blk_cell HBS6.out]; rfl
        have lS := blk_lt HBS6.out
        have hns1 : ¬ InMsk N S := fun h => by have := HI.out.blocks S h; have := HNE.out; have := HLT.out; omega
        have hns2 : ¬ InMsk N g := fun h => by have := HI.out.blocks g h; have := HNE.out; have := HLT.out; omega
        have hadd := add_calls l0 l1 A0 A1 c0 c1 (root : Int) HSW.out nm root An cn w6 acc.length N acc b m HRT.out (Kd.C_below HC0.out HB6.out) (HNC.out.2) HNC.out.1 (by have := HBD.out; have := HTW.out.most; show acc.length < 9223372036854775807; omega) HI6.out.msk HI6.out.root
        have HADD := Lib.hid hadd
        clear hnl hadd
        cases hwy : wayI l0 nm root with
        | none =>
          have HFD := Lib.hid (show OUT = none from HOF4.out.trans (by rw [hwy]))
          go_wp2_with fail
          refine HADD.out.mono ?_
          intro e w7 hp
          obtain ⟨rfl, hB7⟩ := hp.no hwy
          have HB7 := Lib.hid (HB6.out.trans (hB7.mono HB6.out.size))
          clear hB7 hp hwy y0 y1 lg s0 s1 s2 lS
          go_wp2_with fail
          refine bodyPost_ret (v := .tuple #[.pointer none, .int .i64 30]) (by simp [results, Tryd.results49, go_sem, *]) rfl (MskPost.bad (w := w) (HFD.out) (HB7.out))
        | some wy =>
          have hw64n : wrap64 ((n : Int) + 1) = ((n + 1 : Nat) : Int) := by
            rw [show ((n : Int) + 1) = ((n + 1 : Nat) : Int) from rfl]
            exact w64 (by have := HNL.out; have := HTW.out.most; omega)
          have hw64a : wrap64 (((acc.length + 1 : Nat) : Int) + 1) = ((acc.length + 1 + 1 : Nat) : Int) := by
            rw [show (((acc.length + 1 : Nat) : Int) + 1) = ((acc.length + 1 + 1 : Nat) : Int) from rfl]
            exact w64 (by have := HBD.out; have := HTW.out.most; omega)
          have HYS := Lib.hid (show OUT = if kindT l n = 0 then some (acc ++ [wy]) else if sigT l n cCom = true then mskF l0 root l f (n + 1) (acc ++ [wy]) else none from HOF4.out.trans (by rw [hwy]))
          have HWY := Lib.hid hwy
          have hsg : sigT l n cCom = (decide (kindT l n = 4) && eqS (textT l n) cCom) := by rw [sigT_lt HNL.out, kindT_lt HNL.out, textT_lt HNL.out]
          have HSG := Lib.hid hsg
          have ht7 := eqS_list (textT l n) cCom
          rw [cCom_list] at ht7
          clear hwy hsg
          go_wp2_with fail
          refine HADD.out.mono ?_
          intro e w7 hp
          obtain ⟨rfl, N', hM7, hr7, hn7, hT7⟩ := hp.yes wy HWY.out
          have HI7 := Lib.hid (HI6.out.add hM7 hr7 hn7 hT7)
          clear hM7 hr7 hn7 hT7 hp
          have hB67 : Below w.heap.size w w7 := HI7.out.below HB5.out HNE.out.2.2.2.2
          have HB7 := Lib.hid hB67
          have hT7 := HTI5.out.kept (HI7.out.turn.block g HLT.out.2 (by have := HNE.out; omega))
          obtain ⟨z0, z1, _⟩ := hT7 n HNL.out
          rw [show ((l[n]?).getD tok0).kind = kindT l n from rfl] at z0
          rw [show ((l[n]?).getD tok0).text = textT l n from rfl] at z1
          have lg7 := hT7.lt HTW.out.pos
          clear y0 y1 lg s0 s1 s2 lS hB67 hT7
          by_cases k0 : kindT l n = 0
          · have HO7 := Lib.hid (HYS.out.trans (if_pos k0))
            rw [k0] at z0
            clear k0
            go_wp2_with fail
            refine bodyPost_ret (v := .tuple #[.pointer (some ⟨b, 0, none⟩), .int .i64 0]) (by simp [results, Tryd.results49, go_sem, *]) rfl ⟨fun h => (by rw [HO7.out] at h; cases h), fun W hW => ?_, HB7.out⟩
            rw [HO7.out] at hW
            cases hW
            exact ⟨b, m, _, N', rfl, HI7.out.msk, HI7.out.root, by have := HBD.out; have := HTW.out.most; rw [List.length_append, List.length_singleton]; omega⟩
          · have k0b : (kindT l n == 0) = false := beq_false_of_ne k0
            have HO7 := Lib.hid (HYS.out.trans (if_neg k0))
            clear k0
            by_cases k4 : kindT l n = 4
            · have k4b : (kindT l n != 4) = false := by rw [k4]; rfl
              cases e5 : eqS (textT l n) cCom with
              | true =>
                rw [e5] at ht7
                have HS := Lib.hid (show sigT l n cCom = true by rw [HSG.out, e5, decide_eq_true k4]; rfl)
                have HO8 := Lib.hid (HO7.out.trans (if_pos HS.out))
                clear k4 e5
                go_wp2_with fail
                go_roundw
                case rel => exact ⟨n + 1, f, acc ++ [wy], N', by go_num, by rw [List.length_append, List.length_singleton, ← hw64a]; rfl, ⟨by have := HNL.out; omega, by have := HNB.out; have := HBD.out; rw [List.length_append, List.length_singleton]; omega, by have := HNB.out; have := HBD.out; omega⟩, HO8.out, HI7.out⟩
                case measure => have := HNB.out; have := HNL.out; simp [intOf]; omega
              | false =>
                rw [e5] at ht7
                have ht8 : (textT l n).toList ≠ [44] := fun h => by rw [h] at ht7; cases ht7
                have HS := Lib.hid (show ¬ sigT l n cCom = true by rw [HSG.out, e5, Bool.and_false]; simp)
                have HO8 := Lib.hid (HO7.out.trans (if_neg HS.out))
                clear k4 e5
                go_wp2_with fail
                refine bodyPost_ret (v := .tuple #[.pointer none, .int .i64 30]) (by simp [results, Tryd.results49, go_sem, *]) rfl (MskPost.bad (w := w) (HO8.out) (HB7.out))
            · have k4b : (kindT l n != 4) = true := bne_iff_ne.2 k4
              have HS := Lib.hid (show ¬ sigT l n cCom = true by rw [HSG.out, decide_eq_false k4, Bool.false_and]; simp)
              have HO8 := Lib.hid (HO7.out.trans (if_neg HS.out))
              clear k4
              go_wp2_with fail
              refine bodyPost_ret (v := .tuple #[.pointer none, .int .i64 30]) (by simp [results, Tryd.results49, go_sem, *]) rfl (MskPost.bad (w := w) (HO8.out) (HB7.out))
      · have e16 : decide ((16 : Int) < ((acc.length + 1 : Nat) : Int)) = true := decide_eq_true (by omega)
        have e16b : decide ((16 : Int) < (acc.length : Int) + 1) = true := decide_eq_true (by omega)
        have hOF := HOF3.out
        rw [if_neg h16] at hOF
        have HOF4 := Lib.hid hOF
        clear hOF h16 hnl
        go_wp2_with fail
        refine bodyPost_ret (v := .tuple #[.pointer none, .int .i64 30]) (by simp [results, Tryd.results49, go_sem, *]) rfl (MskPost.bad (w := w) (HOF4.out) (HB6.out))

end Go.Proofs.YtejpjclbeogajaaDoor
