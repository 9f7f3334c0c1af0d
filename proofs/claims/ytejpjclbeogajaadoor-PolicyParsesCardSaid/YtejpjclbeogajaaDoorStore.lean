/-
  A statement that leaves its order open, whose operations read or call what only reads, but for one store, whose value comes of a load: one walk in the order of the text, the store left out, serves every order.
-/
import Derived.Test.YtejpjclbeogajaaDoorTail
import Derived.Deep.Quiet
namespace Go.Proofs.YtejpjclbeogajaaDoor
open Go.RowKit
set_option linter.unusedVariables false
set_option linter.unusedSimpArgs false

/-- what holds in one world of an operation holds in another -/
def Worldless (P : Program) (o : Oper) : Prop := ∀ (a : Act) (W W1 : World) (v : Value), o.quietAt P a (fun w => w = W) W v → o.quietAt P a (fun w => w = W1) W1 v

structure StoreWalk (P : Program) (md : Region.Mode) (ops ops' : Array Oper) (s : Nat) (os : Oper) (W W1 : World) (A : Array Bool → Act → Prop) : Prop where
  ready : ∀ listed, Region.ready md ops' listed = Region.ready md ops listed
  same : ∀ j, j ≠ s → ops'[j]? = ops[j]?
  yld : ∀ t, yielded ops' t = yielded ops t
  at_s : ops[s]? = some os
  dum : ∃ od, ops'[s]? = some od ∧ od.guard = none ∧ od.dst = none
  gd : os.guard = none
  ds : os.dst = none
  step : ∀ listed a j o v, A listed a → j ∈ Region.ready md ops listed → j ≠ s → ops[j]? = some o → YieldsIn P ops' (fun w => w = W) o v a → A (listed.setIfInBounds j true) (a.put o.dst v)
  stepS : ∀ listed a, A listed a → s ∈ Region.ready md ops listed → A (listed.setIfInBounds s true) a
  run : ∀ listed a, A listed a → s ∈ Region.ready md ops listed → (execOp a.eval os).run P W = .ok .skip W1
  pure : ∀ listed a j o, A listed a → listed.getD s false = true → j ∈ Region.ready md ops listed → ops[j]? = some o → Worldless P o
  fin : ∀ listed a, A listed a → Region.ready md ops listed = [] → listed.getD s false = true

theorem ready_lt {ops : Array Oper} {md : Region.Mode} {j : Nat} {listed : Array Bool} (h : j ∈ Region.ready md ops listed) : j < listed.size := by
  have h1 := (mem_ready.1 h).1
  by_cases hl : j < listed.size
  · exact hl
  · rw [Array.getD_eq_getD_getElem?, Array.getElem?_eq_none (by omega)] at h1; cases h1
theorem getD_set_self {listed : Array Bool} {i : Nat} (h : i < listed.size) : (listed.setIfInBounds i true).getD i false = true := by
  simp [Array.getD_eq_getD_getElem?, h]

theorem wpAny_store {P : Program} {md : Region.Mode} {ops ops' : Array Oper} {s : Nat} {os : Oper} {W W1 : World} {A : Array Bool → Act → Prop} {Q : Act → Prop} {Q' : Exit → Act → World → Prop}
    (H : StoreWalk P md ops ops' s os W W1 A) (hQ : ∀ a, Q a → Q' .normal a W1) :
    ∀ (fuel : Nat) (listed : Array Bool) (a : Act) (w : World), A listed a → (listed.getD s false = true → w = W1) → (listed.getD s false = false → w = W) →
      wpAnyQ P md ops' (fun w => w = W) Q fuel listed a → wpAny P md ops Q' fuel listed a w := by
  intro fuel
  induction fuel with
  | zero =>
    intro listed a w hA h1 h0 h
    have hr : Region.ready md ops listed = [] := by rw [← H.ready]; exact h.1
    refine ⟨hr, ?_⟩
    rw [h1 (H.fin _ _ hA hr)]
    exact hQ _ h.2
  | succ fuel ih =>
    intro listed a w hA h1 h0 h
    refine ⟨fun hr => ?_, fun i hi => ?_⟩
    · rw [h1 (H.fin _ _ hA hr)]
      exact hQ _ (h.1 (by rw [H.ready]; exact hr))
    · have hi' : i ∈ Region.ready md ops' listed := by rw [H.ready]; exact hi
      have hq := h.2 i hi'
      have hlt := ready_lt hi
      by_cases his : i = s
      · subst his
        have hun : listed.getD i false = false := by
          have := (mem_ready.1 hi).1
          rw [Array.getD_eq_getD_getElem?, Array.getElem?_eq_getElem hlt] at this ⊢
          exact this
        have hw : w = W := h0 hun
        obtain ⟨od, hod, hg, hd⟩ := H.dum
        unfold qOp at hq
        simp only [hod] at hq
        have hwd : Region.wanted od (yielded ops' a.tmps) = true := by unfold Region.wanted; rw [hg]
        rw [if_pos hwd] at hq
        obtain ⟨v, _, hk⟩ := hq
        rw [hd] at hk
        unfold wpOp
        simp only [H.at_s]
        have hws : Region.wanted os (yielded ops a.tmps) = true := by unfold Region.wanted; rw [H.gd]
        rw [if_pos hws]
        refine .inl ?_
        unfold Oper.wp
        rw [hw, H.run _ _ hA hi]
        simp only [Oper.upon]
        rw [H.ds]
        exact ih _ _ _ (H.stepS _ _ hA hi) (fun _ => rfl) (fun hf => by rw [getD_set_self hlt] at hf; cases hf) hk
      · obtain ⟨_, o, ho, _⟩ := mem_ready.1 hi
        obtain ⟨v, hy, hk⟩ := yieldsIn_of_qOp (by rw [H.same i his]; exact ho) hq
        have hA2 := H.step _ _ i o v hA hi his ho hy
        have hnext : wpAny P md ops Q' fuel (listed.setIfInBounds i true) (a.put o.dst v) w :=
          ih _ _ _ hA2 (fun ht => h1 (by rw [getD_set_ne false his] at ht; exact ht)) (fun hf => h0 (by rw [getD_set_ne false his] at hf; exact hf)) hk
        unfold wpOp
        simp only [ho]
        rcases hy with ⟨hw, hv⟩ | ⟨hw, rfl⟩
        · rw [H.yld] at hw
          rw [if_pos hw]
          refine .inl ?_
          have hqa : o.quietAt P a (fun w' => w' = w) w v := by
            cases hl : listed.getD s false with
            | true => rw [h1 hl]; exact H.pure _ _ i o hA hl hi ho a W W1 v (hv W rfl)
            | false => rw [h0 hl]; exact hv W rfl
          exact Oper.wp_of_quiet (C := fun w' => w' = w) (K := fun a' => a' = a.put o.dst v) rfl (fun a' w' hw' ha' => by rw [hw', ha']; exact hnext) ⟨v, fun w' hw' => by rw [hw']; exact hqa, rfl⟩
        · rw [H.yld] at hw
          rw [if_neg (by rw [hw]; simp)]
          exact hnext

/-- the store's checks, over the region's own text: all before n stand before the store, all others have no world -/
def storeB (l : List Oper) (n s : Nat) : Bool :=
  decide (s < l.length) && ((List.range n).all fun i => (List.range n).any (fun j => decide (i < j) && Region.waitsFor .any l.toArray j i) || Region.waitsFor .any l.toArray s i) &&
  ((List.range l.length).all fun j => match l[j]? with | some o => o.after.all fun e => !Region.binds .any e || decide (e.on < j) | none => true)

theorem eval_put_ne (a : Act) (d : Option Tmp) (v : Value) (t : Tmp) (h : d ≠ some t) : (a.put d v).eval (.tmp t) = a.eval (.tmp t) := by
  cases d with
  | none => rfl
  | some d =>
    have hne : d ≠ t := fun e => h (by rw [e])
    simp only [Act.put, Act.eval]
    rw [Array.getD_eq_getD_getElem?, Array.getD_eq_getD_getElem?, Array.getElem?_setIfInBounds_ne hne]
theorem eval_put_self (a : Act) (v : Value) (t : Tmp) (h : t < a.tmps.size) : (a.put (some t) v).eval (.tmp t) = v := by
  simp only [Act.put, Act.eval]
  rw [Array.getD_eq_getD_getElem?, Array.getElem?_setIfInBounds_self_of_lt h]; rfl
theorem put_size (a : Act) (d : Option Tmp) (v : Value) : (a.put d v).tmps.size = a.tmps.size := by
  cases d <;> simp [Act.put]

structure StA (ops : Array Oper) (tp tq tv : Tmp) (p q V : Value) (i0 : Nat) (listed : Array Bool) (a : Act) : Prop where
  size : listed.size = ops.size
  closed : ∀ j o, ops[j]? = some o → listed.getD j false = true → ∀ e ∈ o.after, Region.binds .any e = true → listed.getD e.on false = true
  ptr : a.eval (.tmp tp) = p
  src : a.eval (.tmp tq) = q
  room : tv < a.tmps.size
  val : listed.getD i0 false = true → a.eval (.tmp tv) = V

theorem wp_region_store {P : Program} {id : Nat} {Q : Exit → Act → World → Prop} {a : Act} {w W1 : World} {l : List Oper} (n s i0 : Nat) (tp tq tv : Tmp) (p q V : Value) (os od o0 : Oper)
    (hm : P.follows .mixedOrders = true) (hos : l[s]? = some os) (ho0 : l[i0]? = some o0)
    (hB : storeB l n s = true) (hod : od.after = os.after ∧ od.guard = none ∧ od.dst = none ∧ os.guard = none ∧ os.dst = none) (h0 : o0.dst = some tv ∧ o0.guard = none ∧ i0 < n ∧ i0 ≠ s)
    (hdst : (l.all fun o => !(o.dst == some tp) && !(o.dst == some tq)) = true) (hdv : ((List.range l.length).all fun j => match l[j]? with | some o => decide (j = i0) || !(o.dst == some tv) | none => true) = true)
    (hpure : ∀ j, n ≤ j → j ≠ s → ∀ o, l[j]? = some o → Worldless P o)
    (hlex : Region.lexB .any (l.set s od).toArray = true)
    (hp : a.eval (.tmp tp) = p) (hq : a.eval (.tmp tq) = q) (hroom : tv < a.tmps.size)
    (hload : ∀ a' : Act, a'.eval (.tmp tq) = q → (execOp a'.eval o0).run P (w.drewN 1) = .ok (.value V) (w.drewN 1))
    (hstore : ∀ a' : Act, a'.eval (.tmp tp) = p → a'.eval (.tmp tv) = V → (execOp a'.eval os).run P (w.drewN 1) = .ok .skip W1)
    (h : wpQuiet P (l.set s od).toArray (fun w' => ∃ X : SameAs (w.drewN 1), w' = X.val) (fun a' => Q .normal a' W1) (l.set s od) a) : (Code.region id l.toArray true).wp P Q a w := by
  refine wp_region_any hm ?_
  have hlex' := hlex
  simp only [Region.lexB, Bool.and_eq_true] at hlex'
  have hC : (fun w' => ∃ X : SameAs (w.drewN 1), w' = X.val) = (fun w' : World => w' = w.drewN 1) := by
    funext w'
    apply propext
    constructor
    · rintro ⟨X, hX⟩; rw [hX, X.ok]
    · intro e; exact ⟨⟨w.drewN 1, rfl⟩, e⟩
  rw [hC] at h
  have hlx := wpAnyQ_lex (C := fun w' : World => w' = w.drewN 1) (md := .any) hlex'.1 (l.set s od) 0 (Array.replicate (l.set s od).toArray.size false) a (by simp) (by simpa using hlex'.2) h
  have hsz : (l.set s od).toArray.size = l.toArray.size := by simp
  rw [hsz] at hlx
  have hln : (l.set s od).length = l.toArray.size := by simp
  rw [hln] at hlx
  obtain ⟨hslt, hos'⟩ := List.getElem?_eq_some_iff.1 hos
  have hsame : ∀ j, j ≠ s → (l.set s od).toArray[j]? = l.toArray[j]? := fun j hj => by
    simp only [List.getElem?_toArray]
    exact List.getElem?_set_ne (Ne.symm hj)
  have hat : (l.set s od).toArray[s]? = some od := by
    simp only [List.getElem?_toArray]
    rw [List.getElem?_set_self hslt]
  have hopsS : l.toArray[s]? = some os := by simpa using hos
  simp only [storeB, Bool.and_eq_true, decide_eq_true_eq] at hB
  obtain ⟨⟨_, hpre⟩, hord⟩ := hB
  refine wpAny_store (A := StA l.toArray tp tq tv p q V i0) (ops' := (l.set s od).toArray) (os := os) (W := w.drewN 1) (W1 := W1) ⟨?_, hsame, ?_, hopsS, ⟨od, hat, hod.2.1, hod.2.2.1⟩, hod.2.2.2.1, hod.2.2.2.2, ?_, ?_, ?_, ?_, ?_⟩ (Q := fun a' => Q .normal a' W1) (fun a' h' => h') _ _ _ _ ⟨by simp, ?_, hp, hq, hroom, ?_⟩ ?_ ?_ hlx
  · intro listed
    unfold Region.ready
    rw [hsz]
    apply List.filter_congr
    intro i _
    by_cases his : i = s
    · subst his
      rw [hat, hopsS]
      simp only [Option.map_some, hod.1]
    · rw [hsame i his]
  · intro t
    funext j
    unfold yielded
    by_cases hjs : j = s
    · subst hjs
      rw [hat, hopsS]
      simp only [Option.bind_some, hod.2.2.1, hod.2.2.2.2]
    · rw [hsame j hjs]
  · intro listed a' j o v hA hj hjs ho hy
    have hjlt := ready_lt hj
    obtain ⟨hun, o', ho', hall⟩ := mem_ready.1 hj
    have hoo : o' = o := Option.some.inj (ho'.symm.trans ho)
    subst hoo
    have hlo : l[j]? = some o' := by simpa using ho
    have hmem : o' ∈ l := List.mem_of_getElem? hlo
    have hd := List.all_eq_true.1 hdst o' hmem
    simp only [Bool.and_eq_true, Bool.not_eq_true', beq_eq_false_iff_ne] at hd
    have hjl : j < l.length := (List.getElem?_eq_some_iff.1 hlo).1
    have hv := List.all_eq_true.1 hdv j (List.mem_range.2 hjl)
    rw [hlo] at hv
    simp only [Bool.or_eq_true, decide_eq_true_eq, Bool.not_eq_true', beq_eq_false_iff_ne] at hv
    refine ⟨by simp [hA.size], ?_, by rw [eval_put_ne _ _ _ _ hd.1]; exact hA.ptr, by rw [eval_put_ne _ _ _ _ hd.2]; exact hA.src, by rw [put_size]; exact hA.room, ?_⟩
    · intro k ok hk hl e he hb
      by_cases hkj : j = k
      · subst hkj
        have : ok = o' := Option.some.inj (hk.symm.trans ho)
        subst this
        exact getD_set_true (hall e he hb)
      · rw [getD_set_ne false hkj] at hl
        exact getD_set_true (hA.closed k ok hk hl e he hb)
    · intro hl
      rcases hv with hv | hv
      · subst hv
        have : o' = o0 := Option.some.inj (hlo.symm.trans ho0)
        subst this
        rw [h0.1]
        rcases hy with ⟨hw, hy⟩ | ⟨hw, rfl⟩
        · have h3 := hy _ rfl
          unfold Oper.quietAt at h3
          rw [hload a' hA.src] at h3
          simp only [Oper.quietUpon] at h3
          rw [← h3.2]
          exact eval_put_self _ _ _ hA.room
        · unfold Region.wanted at hw; rw [h0.2.1] at hw; cases hw
      · rw [eval_put_ne _ _ _ _ hv]
        refine hA.val ?_
        by_cases hji : j = i0
        · subst hji
          have : o' = o0 := Option.some.inj (hlo.symm.trans ho0)
          subst this
          exact absurd h0.1 hv
        · rw [getD_set_ne false hji] at hl; exact hl
  · intro listed a' hA hj
    obtain ⟨hun, o', ho', hall⟩ := mem_ready.1 hj
    refine ⟨by simp [hA.size], ?_, hA.ptr, hA.src, hA.room, fun hl => hA.val (by rw [getD_set_ne false (Ne.symm h0.2.2.2)] at hl; exact hl)⟩
    intro k ok hk hl e he hb
    by_cases hkj : s = k
    · subst hkj
      have : ok = o' := Option.some.inj (hk.symm.trans ho')
      subst this
      exact getD_set_true (hall e he hb)
    · rw [getD_set_ne false hkj] at hl
      exact getD_set_true (hA.closed k ok hk hl e he hb)
  · intro listed a' hA hj
    obtain ⟨hun, o', ho', hall⟩ := mem_ready.1 hj
    have : o' = os := Option.some.inj (ho'.symm.trans hopsS)
    subst this
    refine hstore a' hA.ptr (hA.val ?_)
    -- the load stands before the store
    have key : ∀ (d i : Nat), n - i = d → i < n → listed.getD i false = true := by
      intro d
      induction d using Nat.strongRecOn with
      | _ d ih =>
        intro i hd hi
        have h1 := List.all_eq_true.1 hpre i (List.mem_range.2 hi)
        simp only [Bool.or_eq_true, List.any_eq_true, Bool.and_eq_true, decide_eq_true_eq, List.mem_range] at h1
        rcases h1 with ⟨j, hjn, hij, hw⟩ | hw
        · obtain ⟨oj, hoj, e, he, hb, hon⟩ := Region.waitsFor_spec hw
          have := hA.closed j oj hoj (ih (n - j) (by omega) j rfl hjn) e he hb
          rw [hon] at this; exact this
        · obtain ⟨oj, hoj, e, he, hb, hon⟩ := Region.waitsFor_spec hw
          have hoe : oj = o' := Option.some.inj (hoj.symm.trans ho')
          subst hoe
          have := hall e he hb
          rw [hon] at this; exact this
    exact key _ i0 rfl h0.2.2.1
  · intro listed a' j o hA hl hj ho
    obtain ⟨hun, _, _, _⟩ := mem_ready.1 hj
    have hjlt := ready_lt hj
    have key : ∀ (d i : Nat), n - i = d → i < n → listed.getD i false = true := by
      intro d
      induction d using Nat.strongRecOn with
      | _ d ih =>
        intro i hd hi
        have h1 := List.all_eq_true.1 hpre i (List.mem_range.2 hi)
        simp only [Bool.or_eq_true, List.any_eq_true, Bool.and_eq_true, decide_eq_true_eq, List.mem_range] at h1
        rcases h1 with ⟨j, hjn, hij, hw⟩ | hw
        · obtain ⟨oj, hoj, e, he, hb, hon⟩ := Region.waitsFor_spec hw
          have := hA.closed j oj hoj (ih (n - j) (by omega) j rfl hjn) e he hb
          rw [hon] at this; exact this
        · obtain ⟨oj, hoj, e, he, hb, hon⟩ := Region.waitsFor_spec hw
          have := hA.closed s oj hoj hl e he hb
          rw [hon] at this; exact this
    have hunf : listed.getD j false = false := by
      rw [Array.getD_eq_getD_getElem?, Array.getElem?_eq_getElem hjlt] at hun ⊢
      exact hun
    refine hpure j ?_ ?_ o (by simpa using ho)
    · by_cases hjn : n ≤ j
      · exact hjn
      · have := key _ j rfl (by omega)
        rw [hunf] at this; cases this
    · intro e
      subst e
      rw [hunf] at hl; cases hl
  · intro listed a' hA hr
    -- the least that is not listed is ready
    have key : ∀ i, i < l.length → listed.getD i false = true := by
      intro i
      induction i using Nat.strongRecOn with
      | _ i ih =>
        intro hi
        cases hl : listed.getD i false with
        | true => rfl
        | false =>
          exfalso
          have hilt : i < listed.size := by rw [hA.size]; simpa using hi
          have hmem : i ∈ Region.ready .any l.toArray listed := by
            refine mem_ready.2 ⟨by rw [Array.getD_eq_getD_getElem?, Array.getElem?_eq_getElem hilt] at hl ⊢; exact hl, l[i], by simp [hi], fun e he hb => ?_⟩
            have h1 := List.all_eq_true.1 hord i (List.mem_range.2 hi)
            rw [List.getElem?_eq_getElem hi] at h1
            have h2 := Array.all_eq_true'.1 h1 e he
            simp only [Bool.or_eq_true, Bool.not_eq_true', decide_eq_true_eq] at h2
            rcases h2 with h2 | h2
            · rw [hb] at h2; cases h2
            · exact ih e.on h2 (by omega)
          rw [hr] at hmem; cases hmem
    exact key s hslt
  · intro j o ho hl
    rw [Array.getD_eq_getD_getElem?] at hl
    by_cases hj : j < l.toArray.size
    · rw [Array.getElem?_eq_getElem (by simpa using hj)] at hl; simp at hl
    · rw [Array.getElem?_eq_none (by simpa using hj)] at hl; cases hl
  · intro hl
    exfalso
    rw [Array.getD_eq_getD_getElem?] at hl
    by_cases hj : i0 < l.toArray.size
    · rw [Array.getElem?_eq_getElem (by simpa using hj)] at hl; simp at hl
    · rw [Array.getElem?_eq_none (by simpa using hj)] at hl; cases hl
  · intro hl
    exfalso
    rw [Array.getD_eq_getD_getElem?] at hl
    by_cases hj : s < l.toArray.size
    · rw [Array.getElem?_eq_getElem (by simpa using hj)] at hl; simp at hl
    · rw [Array.getElem?_eq_none (by simpa using hj)] at hl; cases hl
  · intro _; rfl

theorem worldless_assign (P : Program) (o : Oper) (x : Operand) (h : o.op = .assign x) : Worldless P o := by
  intro a W W1 v hv
  unfold Oper.quietAt at hv ⊢
  simp only [execOp, h] at hv ⊢
  simp_all [go_sem, Oper.quietUpon]
theorem worldless_pick (P : Program) (o : Oper) (x y z : Operand) (h : o.op = .pick x y z) : Worldless P o := by
  intro a W W1 v hv
  unfold Oper.quietAt at hv ⊢
  simp only [execOp, h] at hv ⊢
  cases hx : a.eval x <;> simp_all [go_sem, Oper.quietUpon]
theorem worldless_not (P : Program) (o : Oper) (t : TypeId) (x : Operand) (h : o.op = .unOp .not t x) : Worldless P o := by
  intro a W W1 v hv
  unfold Oper.quietAt at hv ⊢
  simp only [execOp, h] at hv ⊢
  generalize a.eval x = y at hv ⊢
  cases y with
  | bool b => simp_all [go_sem, Oper.quietUpon]
  | _ => exact absurd hv (by simp [go_sem, Oper.quietUpon, Op.unary])

/-- the store left out -/
def dumOf (os : Oper) : Oper := { dst := none, op := .move (.const undef), type := os.type, pos := os.pos, after := os.after, guard := none }

theorem wp_region_store1 {P : Program} {id : Nat} {Q : Exit → Act → World → Prop} {a : Act} {w W1 : World} {l : List Oper} (n s i0 : Nat) (tp tq tv : Tmp) (p q V : Value) (os o0 : Oper)
    (hm : P.follows .mixedOrders = true) (hos : l[s]? = some os) (ho0 : l[i0]? = some o0)
    (hB : storeB l n s = true) (hod : os.guard = none ∧ os.dst = none) (h0 : o0.dst = some tv ∧ o0.guard = none ∧ i0 < n ∧ i0 ≠ s)
    (hdst : (l.all fun o => !(o.dst == some tp) && !(o.dst == some tq)) = true) (hdv : ((List.range l.length).all fun j => match l[j]? with | some o => decide (j = i0) || !(o.dst == some tv) | none => true) = true)
    (hpure : ∀ j, n ≤ j → j ≠ s → ∀ o, l[j]? = some o → Worldless P o)
    (hlex : Region.lexB .any (l.set s (dumOf os)).toArray = true)
    (hp : a.eval (.tmp tp) = p) (hq : a.eval (.tmp tq) = q) (hroom : tv < a.tmps.size)
    (hload : ∀ a' : Act, a'.eval (.tmp tq) = q → (execOp a'.eval o0).run P (w.drewN 1) = .ok (.value V) (w.drewN 1))
    (hstore : ∀ a' : Act, a'.eval (.tmp tp) = p → a'.eval (.tmp tv) = V → (execOp a'.eval os).run P (w.drewN 1) = .ok .skip W1)
    (h : wpQuiet P (l.set s (dumOf os)).toArray (fun w' => ∃ X : SameAs (w.drewN 1), w' = X.val) (fun a' => Q .normal a' W1) (l.set s (dumOf os)) a) : (Code.region id l.toArray true).wp P Q a w :=
  wp_region_store n s i0 tp tq tv p q V os (dumOf os) o0 hm hos ho0 hB ⟨rfl, rfl, rfl, hod.1, hod.2⟩ h0 hdst hdv hpure hlex hp hq hroom hload hstore h

end Go.Proofs.YtejpjclbeogajaaDoor
