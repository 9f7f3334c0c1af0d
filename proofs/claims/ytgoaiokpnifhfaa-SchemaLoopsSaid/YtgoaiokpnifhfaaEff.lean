/-
  A statement that leaves its order open, whose callees write: if the calls (and stores) stand in one forced order, each with a value that is known, and all else only reads what they leave alone,
  one walk in the order of the text, the calls' values put in, serves every order.
-/
import Derived.Test.YtgoaiokpnifhfaaStore
namespace Go.Proofs.Ytgoaiokpnifhfaa
open Go.RowKit
set_option linter.unusedVariables false
set_option linter.unusedSimpArgs false

/-- an operation that enters no function -/
def NoEnter (P : Program) (o : Oper) : Prop := ∀ (a : Act) (w w' : World) (f : FuncId) (args : Array Value), (execOp a.eval o).run P w ≠ .ok (.enter f args) w'

/-- the region's operations, the effects' values put in -/
def effL (E : List (Nat × Value)) : Nat → List Oper → List Oper
  | _, [] => []
  | j, o :: l => (match E.lookup j with | some v => { o with op := .move (.const v) } | none => o) :: effL E (j + 1) l
theorem effL_len (E : List (Nat × Value)) : ∀ (l : List Oper) (j : Nat), (effL E j l).length = l.length
  | [], _ => rfl
  | o :: l, j => by simp only [effL, List.length_cons, effL_len E l]
theorem effL_at (E : List (Nat × Value)) : ∀ (l : List Oper) (j i : Nat), (effL E j l)[i]? = (l[i]?).map fun o => match E.lookup (j + i) with | some v => { o with op := .move (.const v) } | none => o
  | [], _, _ => rfl
  | o :: l, j, 0 => rfl
  | o :: l, j, i + 1 => by
    simp only [effL, List.getElem?_cons_succ]
    rw [effL_at E l (j + 1) i, show j + 1 + i = j + (i + 1) by omega]

/-- whoever writes these temporaries is waited for -/
def readsB (l : List Oper) (s : Nat) (T : List Tmp) : Bool :=
  T.all fun t => (List.range l.length).all fun j => match l[j]? with | some o => !(o.dst == some t) || Region.waitsFor .any l.toArray s j | none => true
def pathB (l : List Oper) : Nat → List Nat → Bool
  | _, [] => true
  | j, i :: r => Region.waitsFor .any l.toArray j i && pathB l i r
/-- every edge leads back -/
def ordB (l : List Oper) : Bool := (List.range l.length).all fun j => match l[j]? with | some o => o.after.all fun e => !Region.binds .any e || decide (e.on < j) | none => true

def OnAt (l : List Oper) (af : Act) (s : Nat) (o : Oper) : Prop :=
  o.guard = none ∨ ∃ g want t, o.guard = some (g, want) ∧ (l[g]?).bind (·.dst) = some t ∧ readsB l s [t] = true ∧ af.eval (.tmp t) = .bool want
def OffAt (l : List Oper) (af : Act) (s : Nat) (o : Oper) : Prop :=
  ∃ g want t, o.guard = some (g, want) ∧ (l[g]?).bind (·.dst) = some t ∧ readsB l s [t] = true ∧ af.eval (.tmp t) ≠ .bool want

theorem agree {P : Program} {md : Region.Mode} {ops' : Array Oper} {C : World → Prop} {af : Act} (t : Tmp) : ∀ (fuel : Nat) (listed : Array Bool) (a : Act), wpAnyQ P md ops' C (fun a' => a' = af) fuel listed a →
    (∀ j o, listed.getD j true = false → ops'[j]? = some o → o.dst ≠ some t) → a.eval (.tmp t) = af.eval (.tmp t) := by
  intro fuel
  induction fuel with
  | zero => intro listed a h _; rw [h.2]
  | succ fuel ih =>
    intro listed a h hd
    by_cases hr : Region.ready md ops' listed = []
    · rw [h.1 hr]
    · obtain ⟨i, hi⟩ := List.exists_mem_of_ne_nil _ hr
      have hq := h.2 i hi
      obtain ⟨hun, o, ho, _⟩ := mem_ready.1 hi
      obtain ⟨v, _, hk⟩ := yieldsIn_of_qOp ho hq
      have hne := hd i o hun ho
      rw [← eval_put_ne a o.dst v t hne]
      refine ih _ _ hk (fun j oj hj hoj => ?_)
      by_cases hji : i = j
      · subst hji
        rw [Option.some.inj (hoj.symm.trans ho)]; exact hne
      · rw [getD_set_ne true hji] at hj
        exact hd j oj hj hoj

theorem wanted_of {o : Oper} {ops : Array Oper} {tmps : Array Value} {g : Nat} {want b : Bool} {t : Tmp} (hg : o.guard = some (g, want)) (hd : (ops[g]?).bind (·.dst) = some t) (a : Act) (ha : a.tmps = tmps) (hv : a.eval (.tmp t) = .bool b) :
    Region.wanted o (yielded ops tmps) = (b == want) := by
  have h1 : tmps[t]? = some (.bool b) := by
    simp only [Act.eval] at hv
    rw [ha, Array.getD_eq_getD_getElem?] at hv
    cases h : tmps[t]? with
    | none => rw [h] at hv; cases hv
    | some x => rw [h] at hv; simp at hv; rw [hv]
  unfold Region.wanted
  rw [hg]
  simp only [yielded, hd, Option.bind_some, h1]
  cases b <;> cases want <;> rfl

theorem unwanted_of {o : Oper} {ops : Array Oper} {tmps : Array Value} {g : Nat} {want : Bool} {t : Tmp} (hg : o.guard = some (g, want)) (hd : (ops[g]?).bind (·.dst) = some t) (a : Act) (ha : a.tmps = tmps) (hv : a.eval (.tmp t) ≠ .bool want) :
    Region.wanted o (yielded ops tmps) = false := by
  have h1 : tmps[t]? ≠ some (.bool want) := by
    intro h
    apply hv
    simp only [Act.eval]
    rw [ha, Array.getD_eq_getD_getElem?, h]; rfl
  unfold Region.wanted
  rw [hg]
  simp only [yielded, hd, Option.bind_some]
  rw [beq_eq_false_iff_ne]
  split
  · rename_i b hb
    intro e
    obtain rfl := Option.some.inj e
    exact h1 hb
  · intro e; cases e

theorem path_listed {l : List Oper} {listed : Array Bool} (hcl : ∀ j o, l.toArray[j]? = some o → listed.getD j false = true → ∀ e ∈ o.after, Region.binds .any e = true → listed.getD e.on false = true) :
    ∀ (r : List Nat) (j : Nat), pathB l j r = true → (∀ i, Region.waitsFor .any l.toArray j i = true → listed.getD i false = true) → ∀ i ∈ r, listed.getD i false = true := by
  intro r
  induction r with
  | nil => intro j _ _ i hi; cases hi
  | cons x r ih =>
    intro j hp hj i hi
    simp only [pathB, Bool.and_eq_true] at hp
    have hx := hj x hp.1
    rcases List.mem_cons.1 hi with rfl | hi
    · exact hx
    · refine ih x hp.2 (fun i2 hw => ?_) i hi
      obtain ⟨ox, hox, e, he, hb, hon⟩ := Region.waitsFor_spec hw
      have := hcl x ox hox hx e he hb
      rw [hon] at this; exact this

structure EffOk (P : Program) (l : List Oper) (E : List (Nat × Value)) (D : Nat → World → Prop) (af : Act) : Prop where
  plain : ∀ (j : Nat) (o : Oper), l[j]? = some o → E.lookup j = none → NoEnter P o ∨ OffAt l af j o
  eff : ∀ (k s : Nat) (v : Value), E[k]? = some (s, v) → E.lookup s = some v ∧ ∃ o, l[s]? = some o ∧ OnAt l af s o ∧ ∃ T, readsB l s T = true ∧
    ∀ (a : Act) (w : World) (K : Act → World → Prop) (Q' : Exit → Act → World → Prop), (∀ t ∈ T, a.eval (.tmp t) = af.eval (.tmp t)) → D k w → (∀ w', D (k + 1) w' → K (a.put o.dst v) w') → o.wp P a w K Q'
  path : ∀ (k s : Nat) (v : Value) (s' : Nat) (v' : Value), E[k]? = some (s, v) → E[k + 1]? = some (s', v') → ∃ r, s ∈ r ∧ pathB l s' r = true
  inj : ∀ (k k' s : Nat) (v v' : Value), E[k]? = some (s, v) → E[k']? = some (s, v') → k = k'
  find : ∀ (s : Nat) (v : Value), E.lookup s = some v → ∃ k : Nat, E[k]? = some (s, v)
  ord : ordB l = true

/-- just the first k effects are listed -/
def Lev (E : List (Nat × Value)) (listed : Array Bool) (k : Nat) : Prop := k ≤ E.length ∧ ∀ (i s : Nat) (v : Value), E[i]? = some (s, v) → (listed.getD s false = true ↔ i < k)

theorem wpAny_eff {P : Program} {l : List Oper} {E : List (Nat × Value)} {C : World → Prop} {D : Nat → World → Prop} {af : Act} {Q' : Exit → Act → World → Prop}
    (H : EffOk P l E D af) (hC : ∀ k w, D k w → C w) (hQ : ∀ w, D E.length w → Q' .normal af w) :
    ∀ (fuel : Nat) (listed : Array Bool) (a : Act) (w : World) (k : Nat), listed.size = l.length →
      (∀ j o, l.toArray[j]? = some o → listed.getD j false = true → ∀ e ∈ o.after, Region.binds .any e = true → listed.getD e.on false = true) → Lev E listed k → D k w →
      wpAnyQ P .any (effL E 0 l).toArray C (fun a' => a' = af) fuel listed a → wpAny P .any l.toArray Q' fuel listed a w := by
  have hready : ∀ listed, Region.ready .any (effL E 0 l).toArray listed = Region.ready .any l.toArray listed := by
    intro listed
    unfold Region.ready
    have hsz : (effL E 0 l).toArray.size = l.toArray.size := by simp [effL_len]
    rw [hsz]
    apply List.filter_congr
    intro i _
    simp only [List.getElem?_toArray]
    rw [effL_at]
    cases l[i]? with
    | none => rfl
    | some o =>
      simp only [Option.map_some, Nat.zero_add]
      cases E.lookup i <;> rfl
  have hyld : ∀ t, yielded (effL E 0 l).toArray t = yielded l.toArray t := by
    intro t
    funext j
    unfold yielded
    simp only [List.getElem?_toArray]
    rw [effL_at]
    cases l[j]? with
    | none => rfl
    | some o =>
      simp only [Option.map_some, Option.bind_some, Nat.zero_add]
      cases E.lookup j <;> rfl
  have hfin : ∀ (listed : Array Bool) k, listed.size = l.length → Lev E listed k → Region.ready .any l.toArray listed = [] → k = E.length := by
    intro listed k hsz hl hr
    have key : ∀ i, i < l.length → listed.getD i false = true := by
      intro i
      induction i using Nat.strongRecOn with
      | _ i ih =>
        intro hi
        cases hlf : listed.getD i false with
        | true => rfl
        | false =>
          exfalso
          have hilt : i < listed.size := by omega
          have hmem : i ∈ Region.ready .any l.toArray listed := by
            refine mem_ready.2 ⟨by rw [Array.getD_eq_getD_getElem?, Array.getElem?_eq_getElem hilt] at hlf ⊢; exact hlf, l[i], by simp [hi], fun e he hb => ?_⟩
            have h1 := List.all_eq_true.1 H.ord i (List.mem_range.2 hi)
            rw [List.getElem?_eq_getElem hi] at h1
            have h2 := Array.all_eq_true'.1 h1 e he
            simp only [Bool.or_eq_true, Bool.not_eq_true', decide_eq_true_eq] at h2
            rcases h2 with h2 | h2
            · rw [hb] at h2; cases h2
            · exact ih e.on h2 (by omega)
          rw [hr] at hmem; cases hmem
    by_cases hk : k < E.length
    · rcases hE : E[k] with ⟨s, v⟩
      have hE' : E[k]? = some (s, v) := by rw [List.getElem?_eq_getElem hk, hE]
      obtain ⟨_, o, ho, _⟩ := H.eff k s v hE'
      have := (hl.2 k s v hE').1 (key s (List.getElem?_eq_some_iff.1 ho).1)
      omega
    · have := hl.1; omega
  intro fuel
  induction fuel with
  | zero =>
    intro listed a w k hsz hcl hl hD h
    have hr : Region.ready .any l.toArray listed = [] := by rw [← hready]; exact h.1
    have hk := hfin listed k hsz hl hr
    subst hk
    refine ⟨hr, ?_⟩
    rw [h.2]; exact hQ _ hD
  | succ fuel ih =>
    intro listed a w k hsz hcl hl hD h
    refine ⟨fun hr => ?_, fun i hi => ?_⟩
    · have hk := hfin listed k hsz hl hr
      subst hk
      rw [h.1 (by rw [hready]; exact hr)]; exact hQ _ hD
    · have hi' : i ∈ Region.ready .any (effL E 0 l).toArray listed := by rw [hready]; exact hi
      have hq := h.2 i hi'
      have hlt := ready_lt hi
      obtain ⟨hun, o, ho, hall⟩ := mem_ready.1 hi
      have hlo : l[i]? = some o := by simpa using ho
      have hwait : ∀ j, Region.waitsFor .any l.toArray i j = true → listed.getD j false = true := by
        intro j hw
        obtain ⟨oj, hoj, e, he, hb, hon⟩ := Region.waitsFor_spec hw
        have hoe : oj = o := Option.some.inj (hoj.symm.trans ho)
        subst hoe
        have := hall e he hb
        rw [hon] at this; exact this
      have hunf : listed.getD i false = false := by
        rw [Array.getD_eq_getD_getElem?, Array.getElem?_eq_getElem hlt] at hun ⊢
        exact hun
      -- what the temporaries hold that this operation reads
      have hag : ∀ T, readsB l i T = true → ∀ t ∈ T, a.eval (.tmp t) = af.eval (.tmp t) := by
        intro T hT t ht
        have h1 := List.all_eq_true.1 hT t ht
        refine agree t _ _ _ h (fun j oj hj hoj hdt => ?_)
        simp only [List.getElem?_toArray] at hoj
        rw [effL_at] at hoj
        cases hlj : l[j]? with
        | none => rw [hlj] at hoj; cases hoj
        | some o2 =>
          have hjl : j < l.length := (List.getElem?_eq_some_iff.1 hlj).1
          have h2 := List.all_eq_true.1 h1 j (List.mem_range.2 hjl)
          rw [hlj] at h2 hoj
          have hdd : o2.dst = some t := by
            simp only [Option.map_some, Option.some.injEq] at hoj
            rw [← hdt, ← hoj]
            split <;> rfl
          simp only [Bool.or_eq_true, Bool.not_eq_true', beq_eq_false_iff_ne] at h2
          rcases h2 with h2 | h2
          · exact h2 hdd
          · have := hwait j h2
            rw [Array.getD_eq_getD_getElem?, Array.getElem?_eq_getElem (by omega)] at this hj
            rw [Option.getD_some] at this hj
            rw [this] at hj; cases hj
      have hcl2 : ∀ j oj, l.toArray[j]? = some oj → (listed.setIfInBounds i true).getD j false = true → ∀ e ∈ oj.after, Region.binds .any e = true → (listed.setIfInBounds i true).getD e.on false = true := by
        intro j oj hj hlj e he hb
        by_cases hji : i = j
        · subst hji
          have : oj = o := Option.some.inj (hj.symm.trans ho)
          subst this
          exact getD_set_true (hall e he hb)
        · rw [getD_set_ne false hji] at hlj
          exact getD_set_true (hcl j oj hj hlj e he hb)
      have hsz2 : (listed.setIfInBounds i true).size = l.length := by simp [hsz]
      have ho' : (effL E 0 l).toArray[i]? = some (match E.lookup i with | some v => { o with op := .move (.const v) } | none => o) := by
        simp only [List.getElem?_toArray]
        rw [effL_at, hlo]
        simp only [Option.map_some, Nat.zero_add]
      unfold wpOp
      simp only [ho]
      cases hlk : E.lookup i with
      | none =>
        rw [hlk] at ho'
        obtain ⟨v, hy, hk⟩ := yieldsIn_of_qOp ho' hq
        have hl2 : Lev E (listed.setIfInBounds i true) k := by
          refine ⟨hl.1, fun i2 s v2 hs => ?_⟩
          have hne : i ≠ s := by
            intro e; subst e
            rw [(H.eff i2 i v2 hs).1] at hlk; cases hlk
          rw [getD_set_ne false hne]; exact hl.2 i2 s v2 hs
        have hnext := ih _ _ w k hsz2 hcl2 hl2 hD hk
        rcases hy with ⟨hw, hv⟩ | ⟨hw, rfl⟩
        · rw [hyld] at hw
          rw [if_pos hw]
          refine .inl ?_
          have h3 := hv w (hC k w hD)
          rcases H.plain i o hlo hlk with hno | ⟨g, want, t, hg, hd, hrd, hev⟩
          · unfold Oper.quietAt at h3
            unfold Oper.wp
            cases hrun : (execOp a.eval o).run P w with
            | ok n w' =>
              rw [hrun] at h3
              cases n with
              | value u =>
                simp only [Oper.quietUpon] at h3
                simp only [Oper.upon]
                rw [h3.1, h3.2]; exact hnext
              | skip =>
                simp only [Oper.quietUpon] at h3
                simp only [Oper.upon]
                rw [h3.1, ← h3.2]; exact hnext
              | enter f args => exact absurd hrun (hno a w w' f args)
              | _ => exact absurd h3 (by simp [Oper.quietUpon])
            | halt x w' => rw [hrun] at h3; exact absurd h3 (by simp [Oper.quietUpon])
          · have he := hag [t] hrd t (by simp)
            have hw2 := unwanted_of (o := o) (ops := l.toArray) (tmps := a.tmps) hg (by simpa using hd) a rfl (by rw [he]; exact hev)
            rw [hw2] at hw
            cases hw
        · rw [hyld] at hw
          rw [if_neg (by rw [hw]; simp)]
          exact hnext
      | some v =>
        rw [hlk] at ho'
        obtain ⟨k2, hk2⟩ := H.find i v hlk
        obtain ⟨_, o2, ho2, hon, T, hT, hwp⟩ := H.eff k2 i v hk2
        have hoo : o2 = o := Option.some.inj (ho2.symm.trans hlo)
        subst hoo
        have hk2k : ¬ k2 < k := fun hlt2 => by
          have := (hl.2 k2 i v hk2).2 hlt2
          rw [hunf] at this; cases this
        have hE2 : k2 < E.length := (List.getElem?_eq_some_iff.1 hk2).1
        have hkk : k = k2 := by
          by_cases e : k = k2
          · exact e
          · exfalso
            have hlt2 : k < k2 := by omega
            obtain ⟨k3, rfl⟩ : ∃ k3, k2 = k3 + 1 := ⟨k2 - 1, by omega⟩
            rcases hE3 : E[k3]'(by omega) with ⟨s3, v3⟩
            have hE3' : E[k3]? = some (s3, v3) := by rw [List.getElem?_eq_getElem (by omega), hE3]
            obtain ⟨r, hr1, hr2⟩ := H.path k3 s3 v3 i v hE3' hk2
            have h3l := path_listed hcl r i hr2 hwait s3 hr1
            have := (hl.2 k3 s3 v3 hE3').1 h3l
            omega
        subst hkk
        have hwd : Region.wanted o2 (yielded l.toArray a.tmps) = true := by
          rcases hon with hg | ⟨g, want, t, hg, hd, hrd, hev⟩
          · unfold Region.wanted; rw [hg]
          · have he := hag [t] hrd t (by simp)
            rw [hev] at he
            rw [wanted_of (o := o2) (ops := l.toArray) (tmps := a.tmps) hg (by simpa using hd) a rfl he]
            simp
        obtain ⟨v2, hy, hk⟩ := yieldsIn_of_qOp ho' hq
        have hvv : v2 = v := by
          rcases hy with ⟨hw, hv⟩ | ⟨hw, _⟩
          · have h3 := hv w (hC k w hD)
            unfold Oper.quietAt at h3
            rw [BigFrame.run_move (.const v) rfl] at h3
            simp only [Oper.quietUpon, Act.eval] at h3
            exact h3.2.symm
          · rw [hyld] at hw
            have : Region.wanted ({ o2 with op := .move (.const v) } : Oper) (yielded l.toArray a.tmps) = Region.wanted o2 (yielded l.toArray a.tmps) := rfl
            rw [this, hwd] at hw; cases hw
        rw [hvv] at hk
        have hl2 : Lev E (listed.setIfInBounds i true) (k + 1) := by
          refine ⟨hE2, fun i2 s v3 hs => ?_⟩
          by_cases hsi : i = s
          · subst hsi
            have : i2 = k := H.inj i2 k i v3 v hs hk2
            subst this
            rw [getD_set_self hlt]
            exact ⟨fun _ => Nat.lt_succ_self _, fun _ => rfl⟩
          · rw [getD_set_ne false hsi, hl.2 i2 s v3 hs]
            constructor
            · intro h1; omega
            · intro h1
              by_cases e : i2 = k
              · subst e
                have : s = i := by
                  have := hs.symm.trans hk2
                  simp only [Option.some.injEq, Prod.mk.injEq] at this
                  exact this.1
                exact absurd this.symm hsi
              · omega
        rw [if_pos hwd]
        refine .inl (hwp a w _ _ (hag T hT) hD (fun w' hD' => ?_))
        exact ih _ _ w' (k + 1) hsz2 hcl2 hl2 hD' hk

theorem wp_region_eff {P : Program} {id : Nat} {Q : Exit → Act → World → Prop} {a : Act} {w : World} {l : List Oper} (E : List (Nat × Value)) (C : World → Prop) (D : Nat → World → Prop) (af : Act)
    (hm : P.follows .mixedOrders = true) (hlex : Region.lexB .any (effL E 0 l).toArray = true) (hC : ∀ k w, D k w → C w) (hD0 : D 0 (w.drewN 1))
    (hwalk : wpQuiet P (effL E 0 l).toArray C (fun a' => a' = af) (effL E 0 l) a) (H : EffOk P l E D af) (hE : ∀ s v, (s, v) ∈ E → s < l.length) (hend : ∀ w', D E.length w' → Q .normal af w') :
    (Code.region id l.toArray true).wp P Q a w := by
  refine wp_region_any hm ?_
  have hlex' := hlex
  simp only [Region.lexB, Bool.and_eq_true] at hlex'
  have hlx := wpAnyQ_lex (C := C) (md := .any) hlex'.1 (effL E 0 l) 0 (Array.replicate (effL E 0 l).toArray.size false) a (by simp) (by simpa using hlex'.2) hwalk
  have hsz : (effL E 0 l).toArray.size = l.toArray.size := by simp [effL_len]
  rw [hsz] at hlx
  have hln : (effL E 0 l).length = l.toArray.size := by simp [effL_len]
  rw [hln] at hlx
  have hrep : ∀ j, j < l.toArray.size → (Array.replicate l.toArray.size false).getD j false = false := by
    intro j hj
    rw [Array.getD_eq_getD_getElem?, Array.getElem?_eq_getElem (by simpa using hj)]; simp
  refine wpAny_eff H hC hend _ _ _ _ 0 (by simp) (fun j o ho hl => ?_) ⟨Nat.zero_le _, fun i s v hs => ?_⟩ hD0 hlx
  · have hj : j < l.toArray.size := (Array.getElem?_eq_some_iff.1 ho).1
    rw [hrep j hj] at hl; cases hl
  · have hsl := hE s v (List.mem_of_getElem? hs)
    rw [hrep s (by simpa using hsl)]
    constructor
    · intro h; cases h
    · intro h; omega

end Go.Proofs.Ytgoaiokpnifhfaa
