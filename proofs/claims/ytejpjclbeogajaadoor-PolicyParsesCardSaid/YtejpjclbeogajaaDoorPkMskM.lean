/-
  Parts: MskM, MskT, Eff, NoEnter.
-/
import Derived.Test.YtejpjclbeogajaaDoorData
import Derived.Test.YtejpjclbeogajaaDoorBase
import Derived.Test.YtejpjclbeogajaaDoorIdl1
import Derived.Maps.OwnSet
import Derived.Maps.OwnOps
import Derived.Maps.RangeWalk
import Derived.Test.YtejpjclbeogajaaDoorStore

/-
  A mask in memory: for each path of fields that there is, a struct of its own and a map of its own.
-/
namespace Go.Proofs.YtejpjclbeogajaaDoor
open Go.RowKit Go.Maps
set_option linter.unusedVariables false
set_option linter.unusedSimpArgs false

/-! ### ways -/
/-- what is below a field -/
def under (i : Int) (W : List (List Int)) : List (List Int) := W.filterMap fun x => match x with | [] => none | j :: r => if j = i then some r else none
theorem mem_under {i : Int} {W : List (List Int)} {r : List Int} : r ∈ under i W ↔ (i :: r) ∈ W := by
  unfold under
  rw [List.mem_filterMap]
  constructor
  · rintro ⟨x, hx, h⟩
    match x, h with
    | j :: q, h =>
      simp only at h
      split at h
      · rename_i e; cases h; subst e; exact hx
      · cases h
  · intro h
    exact ⟨_, h, by simp⟩
theorem under_same (i : Int) (W : List (List Int)) (r : List Int) : under i (W ++ [i :: r]) = under i W ++ [r] := by
  unfold under
  rw [List.filterMap_append]
  simp
theorem under_other {i j : Int} (h : i ≠ j) (W : List (List Int)) (r : List Int) : under j (W ++ [i :: r]) = under j W := by
  unfold under
  rw [List.filterMap_append]
  simp [h]
theorem under_len (i : Int) (W : List (List Int)) : (under i W).length ≤ W.length := List.length_filterMap_le _ _

/-! ### a map of pointers -/
def encB (o : Option Nat) : Int := match o with | some b => (b : Int) | none => -1
theorem encB_inj {o o' : Option Nat} (h : encB o = encB o') : o = o' := by
  cases o <;> cases o' <;> simp [encB] at h ⊢ <;> omega
/-- how a pointer to a block's head reads -/
def ptrR : Value → Option (DataW Unit × List MemPlace)
  | .pointer none => some (.lit (.int .i64 (-1)), [])
  | .pointer (some ⟨b, 0, none⟩) => some (.lit (.int .i64 (b : Int)), [])
  | _ => none
def ptrV (o : Option Nat) : Value := .pointer (o.map fun b => ⟨b, 0, none⟩)
theorem ptrR_mk (o : Option Nat) : ptrR (ptrV o) = some (.lit (.int .i64 (encB o)), []) := by cases o <;> rfl
theorem ptrR_inv {v : Value} {z : DataW Unit × List MemPlace} (h : ptrR v = some z) : ∃ o, v = ptrV o ∧ z = (.lit (.int .i64 (encB o)), []) := by
  unfold ptrR at h
  split at h
  · cases h; exact ⟨none, rfl, rfl⟩
  · cases h; exact ⟨some _, rfl, rfl⟩
  · cases h
abbrev maskT : TypeId := 156
theorem intKeyed : Keyed Tryd.prog 3 := int_keyed Tryd.underlying3
theorem keyOfI {i : Int} (h : (Lit.int .i64 i).wf = true) : keyOf Tryd.prog 3 (.int .i64 i) = some (.int .i64 i) := by
  simp [keyOf, Tryd.underlying3, mapKey, h]
theorem zeroPtr (w : World) : (zeroValue 68).run Tryd.prog w = .ok (.pointer none) w := by kernel_rfl
/-- a map block that holds pointers -/
structure KidsAt (w : World) (m n : Nat) (K : Int → Option Nat) : Prop where
  mk ::
  out : ∃ D, w.ownsMap Tryd.prog 3 ptrR m n D ∧ ∀ i, (Lit.int .i64 i).wf = true → D.atKey (.int .i64 i) (.lit (.int .i64 (-1))) = .lit (.int .i64 (encB (K i))) ∧ has D (.int .i64 i) = (K i).isSome
theorem KidsAt.kept {w w' : World} {m n : Nat} {K : Int → Option Nat} (h : KidsAt w m n K) (e : w'.heap[m]? = w.heap[m]?) : KidsAt w' m n K := by
  obtain ⟨D, ⟨es, clock, h1, h2⟩, h3⟩ := h.out
  exact ⟨D, ⟨es, clock, e.trans h1, h2⟩, h3⟩
theorem KidsAt.mono {w : World} {m n n' : Nat} {K : Int → Option Nat} (h : KidsAt w m n K) (hn : n ≤ n') : KidsAt w m n' K := by
  obtain ⟨D, h1, h3⟩ := h.out
  exact ⟨D, h1.mono hn, h3⟩
theorem KidsAt.congr {w : World} {m n : Nat} {K K' : Int → Option Nat} (h : KidsAt w m n K) (e : ∀ i, K' i = K i) : KidsAt w m n K' := by
  obtain rfl : K' = K := funext e
  exact h
theorem KidsAt.lt {w : World} {m n : Nat} {K : Int → Option Nat} (h : KidsAt w m n K) : m < w.heap.size := by
  obtain ⟨D, h1, _⟩ := h.out
  exact h1.lt
theorem KidsAt.look {w : World} {m n : Nat} {K : Int → Option Nat} (h : KidsAt w m n K) {i : Int} (hi : (Lit.int .i64 i).wf = true) : (Instr.lookup 154 (.map (some m)) (.int .i64 i) false).run Tryd.prog w = .ok (ptrV (K i)) w := by
  obtain ⟨D, h1, h2⟩ := h.out
  obtain ⟨v, ps, hrun, hv⟩ := h1.lookup intKeyed Tryd.underlying154 (zeroPtr w) (ptrR_mk none) (keyOfI hi)
  obtain ⟨o, rfl, hz⟩ := ptrR_inv hv
  have e := (h2 i hi).1
  have e2 := congrArg Prod.fst hz
  simp only at e2
  rw [show encB none = -1 from rfl, e] at e2
  have e3 : encB (K i) = encB o := by
    simp only [DataW.lit.injEq, Lit.int.injEq, true_and] at e2
    exact e2
  rw [hrun, encB_inj e3]
/-- an empty map that is made -/
theorem empty_at (i : Int) : (DataW.map [] : DataW Unit).atKey (.int .i64 i) (.lit (.int .i64 (-1))) = .lit (.int .i64 (encB none)) ∧ has (DataW.map [] : DataW Unit) (.int .i64 i) = false := by
  constructor
  · simp [DataW.atKey, encB]
  · simp [Maps.has]
set_option maxRecDepth 100000 in
theorem KidsAt.made (w : World) : KidsAt (w.alloc (.map #[] 0)) w.heap.size 0 (fun _ => none) :=
  ⟨.map [], World.ownsMap_made w Tryd.prog 3 ptrR, fun i _ => empty_at i⟩
theorem KidsAt.put {w w' : World} {m n : Nat} {K : Int → Option Nat} {D : DataW Unit} {i : Int} {b : Nat} (hi : (Lit.int .i64 i).wf = true) (h0 : w.ownsMap Tryd.prog 3 ptrR m n D)
    (h2 : ∀ i, (Lit.int .i64 i).wf = true → D.atKey (.int .i64 i) (.lit (.int .i64 (-1))) = .lit (.int .i64 (encB (K i))) ∧ has D (.int .i64 i) = (K i).isSome)
    (h : w'.ownsMap Tryd.prog 3 ptrR m (n + 1) (D.put (.int .i64 i) (.lit (.int .i64 (b : Int))))) : KidsAt w' m (n + 1) (fun j => if j = i then some b else K j) := by
  have hD := h0.isMap
  refine ⟨_, h, fun j hj => ?_⟩
  by_cases e : j = i
  · subst e
    rw [if_pos rfl]
    exact ⟨atKey_put_same hD (by trivial) _ _, has_put_same hD (by trivial) _⟩
  · have hne : Lit.int .i64 j ≠ Lit.int .i64 i := fun e2 => e (by injection e2)
    rw [if_neg e, atKey_put_other hne, has_put_other hne]
    exact h2 j hj
/-- how many kids: none, or some -/
theorem KidsAt.size {w : World} {m n : Nat} {K : Int → Option Nat} (h : KidsAt w m n K) : ∃ k : Nat, (Builtin.len_ #[154] 3 #[.map (some m)]).run Tryd.prog w = .ok (.int .i64 (k : Int)) w ∧ k ≤ n ∧ (0 < k ↔ ∃ i, (Lit.int .i64 i).wf = true ∧ (K i).isSome = true) := by
  obtain ⟨D, h1, h2⟩ := h.out
  refine ⟨Maps.size D, h1.len Tryd.underlying154 _, h1.size_le, ?_⟩
  obtain ⟨es, clock, hb, F, hs, rfl⟩ := h1
  constructor
  · intro hp
    have hne : ((es.toList.map (Go.WideElems.rg Tryd.prog 3 ptrR)).foldr DataW.insert []) ≠ [] := by
      intro e
      rw [Maps.size_eq, e] at hp
      exact absurd hp (by simp)
    obtain ⟨p, l, hpl⟩ := List.exists_cons_of_ne_nil hne
    have hmem : p ∈ ((es.toList.map (Go.WideElems.rg Tryd.prog 3 ptrR)).foldr DataW.insert []) := by rw [hpl]; simp
    rw [mem_sorted] at hmem
    obtain ⟨e0, he0, hpe⟩ := List.mem_map.1 hmem
    obtain ⟨y, hy⟩ := F.reads e0 he0
    rw [Go.WideElems.rg_of hy] at hpe
    obtain ⟨x, _, hx, hwf⟩ := Maps.keyOf_int_inv Tryd.underlying3 (Go.WideElems.rd_key hy)
    refine ⟨x, hwf, ?_⟩
    rw [← (h2 x hwf).2, Maps.has_eq, hpl]
    rw [← hpe]
    simp [hx, Lit.sameKey]
  · rintro ⟨i, hi, hk⟩
    have := (h2 i hi).2
    rw [hk, Maps.has_eq] at this
    rw [Maps.size_eq]
    cases hl : ((es.toList.map (Go.WideElems.rg Tryd.prog 3 ptrR)).foldr DataW.insert []) with
    | nil => rw [hl] at this; simp at this
    | cons a l => simp

theorem KidsAt.sizeAny {w : World} {m n : Nat} {K : Int → Option Nat} (h : KidsAt w m n K) : ∃ k : Nat, (∀ w' : World, (∀ b, b = m → w'.heap[b]? = w.heap[b]?) → (Builtin.len_ #[154] 3 #[.map (some m)]).run Tryd.prog w' = .ok (.int .i64 (k : Int)) w') ∧ k ≤ n ∧ (0 < k ↔ ∃ i, (Lit.int .i64 i).wf = true ∧ (K i).isSome = true) := by
  obtain ⟨k, h1, h2, h3⟩ := h.size
  refine ⟨k, fun w' hw => ?_, h2, h3⟩
  obtain ⟨D, hD, _⟩ := h.out
  obtain ⟨es, clock, hb, hF, hs, hd⟩ := hD
  have e1 := World.ownsMap.len (w := w) ⟨es, clock, hb, hF, hs, hd⟩ Tryd.underlying154 3
  have e2 := World.ownsMap.len (w := w') ⟨es, clock, (hw m rfl).trans hb, hF, hs, hd⟩ Tryd.underlying154 3
  rw [h1] at e1
  rw [e2]
  have : (k : Int) = Maps.size D := by
    have := e1
    simp only [Result.ok.injEq, Value.int.injEq, true_and, and_true] at this
    exact this
  rw [this]

end Go.Proofs.YtejpjclbeogajaaDoor

/-
  A mask in memory: its nodes, path by path; what a path that is added leaves.
-/
namespace Go.Proofs.YtejpjclbeogajaaDoor
open Go.RowKit Go.Maps
set_option linter.unusedVariables false
set_option linter.unusedSimpArgs false

abbrev NMap := List Int → Option (Nat × Nat)
/-- the nodes of a mask (a struct's block and a map's) for each path, and the ways that are in it -/
structure Msk (w : World) (n : Nat) (N : NMap) (W : List (List Int)) : Prop where
  root : (N []).isSome = true
  dom : ∀ p, p ≠ [] → ((N p).isSome = true ↔ ∃ x ∈ W, p <+: x)
  wf : ∀ x ∈ W, ∀ i ∈ x, (Lit.int .i64 i).wf = true
  cell : ∀ p b m, N p = some (b, m) → w.heap[b]? = some (.cells #[.bool (decide (p ∈ W)), .map (some m)] maskT (0, 0))
  kids : ∀ p b m, N p = some (b, m) → KidsAt w m n (fun i => (N (p ++ [i])).map Prod.fst)
  inj : ∀ p q x y, N p = some x → N q = some y → (x.1 = y.1 ∨ x.2 = y.2) → p = q
def InMsk (N : NMap) (k : Nat) : Prop := ∃ p x, N p = some x ∧ (k = x.1 ∨ k = x.2)

/-- what has turned lies in so many blocks -/
structure Turn (w w' : World) (S : Nat → Prop) : Prop where
  os : w'.os = w.os
  tape : w'.tape = w.tape
  output : w'.output = w.output
  size : w.heap.size ≤ w'.heap.size
  block : ∀ k, k < w.heap.size → ¬ S k → w'.heap[k]? = w.heap[k]?
theorem Turn.refl (w : World) (S : Nat → Prop) : Turn w w S := ⟨rfl, rfl, rfl, Nat.le_refl _, fun _ _ _ => rfl⟩
theorem Turn.of_below {w w' : World} (h : Below w.heap.size w w') (S : Nat → Prop) : Turn w w' S := ⟨h.os, h.tape, h.output, h.size, fun k hk _ => h.block k hk⟩
theorem Turn.of_grown {w w' : World} {g : Nat} (h : w.grownBy w' (some g)) {S : Nat → Prop} (hS : S g) : Turn w w' S := ⟨h.os, h.tape, h.output, h.size, fun k hk hn => h.block k hk (fun e => hn (by cases e; exact hS))⟩
theorem Turn.trans {a b c : World} {S S' : Nat → Prop} (h : Turn a b S) (k : Turn b c S') (hs : ∀ j, j < a.heap.size → S' j → S j) : Turn a c S :=
  ⟨k.os.trans h.os, k.tape.trans h.tape, k.output.trans h.output, Nat.le_trans h.size k.size, fun j hj hn => (k.block j (Nat.lt_of_lt_of_le hj h.size) (fun hs' => hn (hs j hj hs'))).trans (h.block j hj hn)⟩
theorem Turn.mono {a b : World} {S S' : Nat → Prop} (h : Turn a b S) (hs : ∀ j, S j → S' j) : Turn a b S' := ⟨h.os, h.tape, h.output, h.size, fun j hj hn => h.block j hj (fun x => hn (hs j x))⟩
theorem Turn.below {a b : World} {S : Nat → Prop} {B : Nat} (h : Turn a b S) (hB : B ≤ a.heap.size) (hs : ∀ j, S j → B ≤ j) : Below B a b := ⟨h.os, h.tape, h.output, h.size, fun j hj => h.block j (Nat.lt_of_lt_of_le hj hB) (fun x => by have := hs j x; omega)⟩

theorem Msk.mono {w : World} {n n' : Nat} {N : NMap} {W : List (List Int)} (h : Msk w n N W) (hn : n ≤ n') : Msk w n' N W :=
  ⟨h.root, h.dom, h.wf, h.cell, fun p b m hp => (h.kids p b m hp).mono hn, h.inj⟩
theorem Msk.kept {w w' : World} {n : Nat} {N : NMap} {W : List (List Int)} (h : Msk w n N W) (e : ∀ k, InMsk N k → w'.heap[k]? = w.heap[k]?) : Msk w' n N W :=
  ⟨h.root, h.dom, h.wf, fun p b m hp => (e b ⟨p, _, hp, .inl rfl⟩).trans (h.cell p b m hp), fun p b m hp => (h.kids p b m hp).kept (e m ⟨p, _, hp, .inr rfl⟩), h.inj⟩
theorem Msk.lt {w : World} {n : Nat} {N : NMap} {W : List (List Int)} (h : Msk w n N W) {k : Nat} (hk : InMsk N k) : k < w.heap.size := by
  obtain ⟨p, ⟨b, m⟩, hp, rfl | rfl⟩ := hk
  · exact blk_lt (h.cell p _ _ hp)
  · exact (h.kids p _ _ hp).lt
theorem Msk.below {w w' : World} {n : Nat} {N : NMap} {W : List (List Int)} (h : Msk w n N W) (hb : Below w.heap.size w w') : Msk w' n N W :=
  h.kept fun k hk => hb.block k (h.lt hk)
theorem Msk.cells {w : World} {n : Nat} {N : NMap} {W : List (List Int)} (h : Msk w n N W) {p : List Int} {b m : Nat} (hp : N p = some (b, m)) : ∀ q x, N q = some x → b ≠ x.2 ∧ m ≠ x.1 := by
  intro q ⟨b', m'⟩ hq
  obtain ⟨D, ⟨es, clock, h1, _⟩, _⟩ := (h.kids q b' m' hq).out
  obtain ⟨D', ⟨es', clock', h1', _⟩, _⟩ := (h.kids p b m hp).out
  constructor
  · rintro rfl
    have := h.cell p _ m hp
    rw [h1] at this
    cases this
  · rintro rfl
    have := h.cell q _ m' hq
    rw [h1'] at this
    cases this

/-! ### below a field -/
def kidN (N : NMap) (i : Int) : NMap := fun q => N (i :: q)
theorem cons_prefix {i : Int} {p x : List Int} (h : (i :: p) <+: x) : ∃ r, x = i :: r ∧ p <+: r := by
  obtain ⟨t, rfl⟩ := h
  exact ⟨p ++ t, rfl, t, rfl⟩
theorem Msk.kid {w : World} {n : Nat} {N : NMap} {W : List (List Int)} (h : Msk w n N W) {i : Int} (hk : (N [i]).isSome = true) : Msk w n (kidN N i) (under i W) := by
  refine ⟨hk, fun p hp => ?_, fun x hx j hj => h.wf _ (mem_under.1 hx) j (List.mem_cons_of_mem _ hj), fun p b m hp => ?_, fun p b m hp => h.kids (i :: p) b m hp, fun p q x y hp hq hxy => ?_⟩
  · show (N (i :: p)).isSome = true ↔ _
    rw [h.dom (i :: p) (by simp)]
    constructor
    · rintro ⟨x, hx, hpx⟩
      obtain ⟨r, rfl, hr⟩ := cons_prefix hpx
      exact ⟨r, mem_under.2 hx, hr⟩
    · rintro ⟨r, hr, t, rfl⟩
      exact ⟨_, mem_under.1 hr, t, rfl⟩
  · have := h.cell (i :: p) b m hp
    rw [this]
    have e : decide (p ∈ under i W) = decide (i :: p ∈ W) := decide_eq_decide.2 mem_under
    rw [e]
  · have := h.inj (i :: p) (i :: q) x y hp hq hxy
    exact (List.cons.inj this).2
/-- a new mask -/
def newN (b m : Nat) : NMap := fun p => if p = [] then some (b, m) else none
theorem Msk.fresh {w : World} {b m : Nat} (hb : w.heap[b]? = some (.cells #[.bool false, .map (some m)] maskT (0, 0))) (hm : KidsAt w m 0 (fun _ => none)) : Msk w 0 (newN b m) [] := by
  refine ⟨rfl, fun p hp => ?_, fun x hx => absurd hx List.not_mem_nil, fun p b' m' hp => ?_, fun p b' m' hp => ?_, fun p q x y hp hq _ => ?_⟩
  · simp [newN, hp]
  · unfold newN at hp
    split at hp
    · cases hp; simpa using hb
    · cases hp
  · unfold newN at hp
    split at hp
    · cases hp
      refine hm.congr fun i => ?_
      simp [newN]
    · cases hp
  · unfold newN at hp hq
    split at hp
    · split at hq
      · rename_i e1 e2; rw [e1, e2]
      · cases hq
    · cases hp
theorem inNew {b m k : Nat} (h : InMsk (newN b m) k) : k = b ∨ k = m := by
  obtain ⟨p, x, hp, hk⟩ := h
  unfold newN at hp
  split at hp
  · cases hp; exact hk
  · cases hp

/-! ### a kid that is put in -/
def putKid (N : NMap) (i : Int) (kid : NMap) : NMap := fun p => match p with | [] => N [] | j :: q => if j = i then kid q else N (j :: q)
theorem Msk.put {w w3 : World} {n : Nat} {N kid : NMap} {W : List (List Int)} {i : Int} {r : List Int} {b m kb km : Nat} (h : Msk w n N W) (hr : N [] = some (b, m)) (hk : Msk w3 (n + 1) kid (under i W ++ [r])) (hk0 : kid [] = some (kb, km))
    (hi : (Lit.int .i64 i).wf = true) (hroot : w3.heap[b]? = w.heap[b]?) (hm : KidsAt w3 m (n + 1) (fun j => if j = i then some kb else (N [j]).map Prod.fst))
    (hold : ∀ p y, N p = some y → p ≠ [] → (∀ q, p ≠ i :: q) → w3.heap[y.1]? = w.heap[y.1]? ∧ w3.heap[y.2]? = w.heap[y.2]?)
    (hnew : ∀ q y, kid q = some y → N (i :: q) = some y ∨ (w.heap.size ≤ y.1 ∧ w.heap.size ≤ y.2)) : Msk w3 (n + 1) (putKid N i kid) (W ++ [i :: r]) := by
  have hlt : ∀ p y, N p = some y → y.1 < w.heap.size ∧ y.2 < w.heap.size := fun p y hp => ⟨h.lt ⟨p, y, hp, .inl rfl⟩, h.lt ⟨p, y, hp, .inr rfl⟩⟩
  have hwr : ∀ j ∈ r, (Lit.int .i64 j).wf = true := fun j hj => hk.wf r (by simp) j hj
  refine ⟨by show (N []).isSome = true; rw [hr]; rfl, fun p hp => ?_, fun x hx j hj => ?_, fun p b' m' hp => ?_, fun p b' m' hp => ?_, fun p q x y hp hq hxy => ?_⟩
  · match p, hp with
    | j :: q, _ =>
      show ((if j = i then kid q else N (j :: q)).isSome = true) ↔ _
      by_cases e : j = i
      · subst e
        rw [if_pos rfl]
        by_cases hq : q = []
        · subst hq
          rw [hk0]
          exact ⟨fun _ => ⟨j :: r, by simp, r, rfl⟩, fun _ => rfl⟩
        · rw [hk.dom q hq]
          constructor
          · rintro ⟨x, hx, t, rfl⟩
            refine ⟨j :: (q ++ t), ?_, t, rfl⟩
            rw [List.mem_append] at hx ⊢
            rcases hx with hx | hx
            · exact .inl (mem_under.1 hx)
            · right; rw [List.mem_singleton] at hx ⊢; rw [hx]
          · rintro ⟨x, hx, hpx⟩
            obtain ⟨r', rfl, hr'⟩ := cons_prefix hpx
            refine ⟨r', ?_, hr'⟩
            rw [List.mem_append] at hx ⊢
            rcases hx with hx | hx
            · exact .inl (mem_under.2 hx)
            · right; rw [List.mem_singleton] at hx ⊢; exact (List.cons.inj hx).2
      · rw [if_neg e, h.dom (j :: q) (by simp)]
        constructor
        · rintro ⟨x, hx, hpx⟩; exact ⟨x, List.mem_append_left _ hx, hpx⟩
        · rintro ⟨x, hx, hpx⟩
          rw [List.mem_append, List.mem_singleton] at hx
          rcases hx with hx | rfl
          · exact ⟨x, hx, hpx⟩
          · obtain ⟨r', e2, _⟩ := cons_prefix hpx
            exact absurd (List.cons.inj e2).1.symm e
  · rw [List.mem_append, List.mem_singleton] at hx
    rcases hx with hx | rfl
    · exact h.wf x hx j hj
    · rcases List.mem_cons.1 hj with rfl | hj
      · exact hi
      · exact hwr j hj
  · match p, hp with
    | [], hp =>
      have hp : N [] = some (b', m') := hp
      have hc := h.cell [] b' m' hp
      rw [hr] at hp
      cases hp
      rw [hroot, hc]
      have e : decide ([] ∈ W ++ [i :: r]) = decide ([] ∈ W) := decide_eq_decide.2 (by simp)
      rw [e]
    | j :: q, hp =>
      have hp : (if j = i then kid q else N (j :: q)) = some (b', m') := hp
      by_cases e : j = i
      · subst e
        rw [if_pos rfl] at hp
        rw [hk.cell q b' m' hp]
        have e : decide (q ∈ under j W ++ [r]) = decide (j :: q ∈ W ++ [j :: r]) := decide_eq_decide.2 (by rw [List.mem_append, List.mem_append, mem_under, List.mem_singleton, List.mem_singleton, List.cons.injEq]; simp)
        rw [e]
      · rw [if_neg e] at hp
        rw [(hold _ _ hp (by simp) (fun q' h2 => e (List.cons.inj h2).1)).1, h.cell _ b' m' hp]
        have e : decide (j :: q ∈ W ++ [i :: r]) = decide (j :: q ∈ W) := decide_eq_decide.2 (by rw [List.mem_append, List.mem_singleton, List.cons.injEq]; simp [e])
        rw [e]
  · match p, hp with
    | [], hp =>
      have hp : N [] = some (b', m') := hp
      rw [hr] at hp
      cases hp
      refine hm.congr fun j => ?_
      show (if j = i then kid [] else N [j]).map Prod.fst = _
      by_cases e : j = i
      · rw [if_pos e, if_pos e, hk0]; rfl
      · rw [if_neg e, if_neg e]
    | j :: q, hp =>
      have hp : (if j = i then kid q else N (j :: q)) = some (b', m') := hp
      by_cases e : j = i
      · rw [if_pos e] at hp
        refine (hk.kids q b' m' hp).congr fun l => ?_
        show (if j = i then kid (q ++ [l]) else N (j :: (q ++ [l]))).map Prod.fst = _
        rw [if_pos e]
      · rw [if_neg e] at hp
        refine (((h.kids _ b' m' hp).kept (hold _ _ hp (by simp) (fun q' h2 => e (List.cons.inj h2).1)).2).mono (Nat.le_succ n)).congr fun l => ?_
        show (if j = i then kid (q ++ [l]) else N (j :: (q ++ [l]))).map Prod.fst = _
        rw [if_neg e]; rfl
  · have key : ∀ p x, putKid N i kid p = some x → N p = some x ∨ (∃ q, p = i :: q ∧ kid q = some x ∧ w.heap.size ≤ x.1 ∧ w.heap.size ≤ x.2) := by
      intro p x hp
      match p, hp with
      | [], hp => exact .inl hp
      | j :: q, hp =>
        have hp2 : (if j = i then kid q else N (j :: q)) = some x := hp
        by_cases e : j = i
        · rw [if_pos e] at hp2
          subst e
          rcases hnew q x hp2 with h1 | h1
          · exact .inl h1
          · exact .inr ⟨q, rfl, hp2, h1⟩
        · rw [if_neg e] at hp2; exact .inl hp2
    rcases key p x hp with h1 | ⟨p', rfl, h1, g1, g2⟩ <;> rcases key q y hq with h2 | ⟨q', rfl, h2, g3, g4⟩
    · exact h.inj p q x y h1 h2 hxy
    · have := hlt p x h1; exfalso; rcases hxy with e | e <;> omega
    · have := hlt q y h2; exfalso; rcases hxy with e | e <;> omega
    · rw [hk.inj p' q' x y h1 h2 hxy]

/-- the blocks below a field -/
def InKid (N : NMap) (i : Int) (k : Nat) : Prop := InMsk (kidN N i) k
theorem InKid.up {N : NMap} {i : Int} {k : Nat} (h : InKid N i k) : InMsk N k := by
  obtain ⟨q, x, hq, hk⟩ := h
  exact ⟨i :: q, x, hq, hk⟩
/-- a block of another path is none of those below a field -/
theorem Msk.not_kid {w : World} {n : Nat} {N : NMap} {W : List (List Int)} (h : Msk w n N W) {i : Int} {p : List Int} {b m : Nat} (hp : N p = some (b, m)) (hne : ∀ q, p ≠ i :: q) : ¬ InKid N i b ∧ ¬ InKid N i m := by
  constructor
  · rintro ⟨q, x, hq, hk | hk⟩
    · exact hne q (h.inj p (i :: q) _ _ hp hq (.inl hk))
    · exact (h.cells hp (i :: q) x hq).1 hk
  · rintro ⟨q, x, hq, hk | hk⟩
    · exact (h.cells hp (i :: q) x hq).2 hk
    · exact hne q (h.inj p (i :: q) _ _ hp hq (.inr hk))
theorem Msk.old {w wk : World} {n : Nat} {N : NMap} {W : List (List Int)} (h : Msk w n N W) {i : Int} (hT : Turn w wk (InKid N i)) {p : List Int} {b m : Nat} (hp : N p = some (b, m)) (hne : ∀ q, p ≠ i :: q) : wk.heap[b]? = w.heap[b]? ∧ wk.heap[m]? = w.heap[m]? :=
  ⟨hT.block b (h.lt ⟨p, _, hp, .inl rfl⟩) (h.not_kid hp hne).1, hT.block m (h.lt ⟨p, _, hp, .inr rfl⟩) (h.not_kid hp hne).2⟩
theorem Msk.under_none {w : World} {n : Nat} {N : NMap} {W : List (List Int)} (h : Msk w n N W) {i : Int} (hk : N [i] = none) : under i W = [] := by
  rw [List.eq_nil_iff_forall_not_mem]
  intro r hr
  have := (h.dom [i] (by simp)).2 ⟨i :: r, mem_under.1 hr, r, rfl⟩
  rw [hk] at this
  cases this
theorem Msk.rootAt {w wk : World} {n : Nat} {N : NMap} {W : List (List Int)} (h : Msk w n N W) {i : Int} (hT : Turn w wk (InKid N i)) {b m : Nat} (hr : N [] = some (b, m)) :
    wk.heap[b]? = some (.cells #[.bool (decide ([] ∈ W)), .map (some m)] maskT (0, 0)) ∧ KidsAt wk m n (fun j => (N [j]).map Prod.fst) := by
  have ho := h.old hT hr (fun q => by simp)
  exact ⟨ho.1.trans (h.cell [] b m hr), (h.kids [] b m hr).kept ho.2⟩
/-- what is behind the last store of Add -/
theorem add_end {w wk w6 : World} {n : Nat} {N kid : NMap} {W : List (List Int)} {i : Int} {r : List Int} {b m kb km : Nat} (h : Msk w n N W) (hr : N [] = some (b, m)) (hk : Msk wk (n + 1) kid (under i W ++ [r])) (hk0 : kid [] = some (kb, km))
    (hi : (Lit.int .i64 i).wf = true) (hT : Turn w wk (InKid N i)) (hnew : ∀ q y, kid q = some y → N (i :: q) = some y ∨ (w.heap.size ≤ y.1 ∧ w.heap.size ≤ y.2))
    (hg : wk.grownBy w6 (some m)) (hm : KidsAt w6 m (n + 1) (fun j => if j = i then some kb else (N [j]).map Prod.fst)) :
    Msk w6 (n + 1) (putKid N i kid) (W ++ [i :: r]) ∧ putKid N i kid [] = N [] ∧ (∀ p y, putKid N i kid p = some y → N p = some y ∨ (w.heap.size ≤ y.1 ∧ w.heap.size ≤ y.2)) ∧ Turn w w6 (InMsk N) := by
  have hml : m < w.heap.size := h.lt ⟨[], _, hr, .inr rfl⟩
  have hbl : b < w.heap.size := h.lt ⟨[], _, hr, .inl rfl⟩
  have hne0 : ∀ q, ([] : List Int) ≠ i :: q := fun q => by simp
  have hbm : b ≠ m := (h.cells hr [] _ hr).1
  refine ⟨Msk.put h hr (hk.kept fun k hkk => ?_) hk0 hi ?_ hm ?_ hnew, rfl, ?_, (hT.mono (S' := InMsk N) fun k hk => hk.up).trans (Turn.of_grown hg (S := fun k => k = m) rfl) fun j _ hj => ⟨[], _, hr, .inr hj⟩⟩
  · refine hg.block k (hk.lt hkk) (fun e => ?_)
    obtain rfl := Option.some.inj e
    obtain ⟨q, y, hq, hy⟩ := hkk
    rcases hnew q y hq with h1 | ⟨h1, h2⟩
    · exact (h.not_kid hr hne0).2 ⟨q, y, h1, hy⟩
    · rcases hy with hy | hy <;> omega
  · exact (hg.block b (Nat.lt_of_lt_of_le hbl hT.size) (fun e => hbm (Option.some.inj e))).trans (h.old hT hr hne0).1
  · intro p y hp hp0 hne
    have ho := h.old hT (b := y.1) (m := y.2) hp hne
    have hl1 : y.1 < w.heap.size := h.lt ⟨p, y, hp, .inl rfl⟩
    have hl2 : y.2 < w.heap.size := h.lt ⟨p, y, hp, .inr rfl⟩
    refine ⟨(hg.block y.1 (Nat.lt_of_lt_of_le hl1 hT.size) (fun e => ?_)).trans ho.1, (hg.block y.2 (Nat.lt_of_lt_of_le hl2 hT.size) (fun e => ?_)).trans ho.2⟩
    · exact (h.cells hr p y hp).2 (Option.some.inj e).symm
    · exact hp0 (h.inj p [] y (b, m) hp hr (.inr (Option.some.inj e)))
  · intro p y hp
    match p, hp with
    | [], hp => exact .inl hp
    | j :: q, hp =>
      have hp2 : (if j = i then kid q else N (j :: q)) = some y := hp
      by_cases e : j = i
      · rw [if_pos e] at hp2
        rw [e]
        exact hnew q y hp2
      · rw [if_neg e] at hp2; exact .inl hp2
/-- a mask that is there as a whole -/
theorem Msk.whole {w : World} {n : Nat} {N : NMap} {W : List (List Int)} {b m : Nat} (h : Msk w n N W) (hr : N [] = some (b, m)) : Msk (w.setCell ⟨b, 0, none⟩ (.bool true)) n N (W ++ [[]]) := by
  have hoth : ∀ k, k ≠ b → (w.setCell ⟨b, 0, none⟩ (.bool true)).heap[k]? = w.heap[k]? := fun k hk => Below.heap_setCell _ _ _ _ (by simpa using hk)
  refine ⟨h.root, fun p hp => ?_, fun x hx => ?_, fun p b' m' hp => ?_, fun p b' m' hp => ?_, h.inj⟩
  · rw [h.dom p hp]
    constructor
    · rintro ⟨x, hx, hpx⟩; exact ⟨x, List.mem_append_left _ hx, hpx⟩
    · rintro ⟨x, hx, hpx⟩
      rw [List.mem_append, List.mem_singleton] at hx
      rcases hx with hx | rfl
      · exact ⟨x, hx, hpx⟩
      · exact absurd (List.prefix_nil.1 hpx) hp
  · rw [List.mem_append, List.mem_singleton] at hx
    rcases hx with hx | rfl
    · exact h.wf x hx
    · exact fun i hi => absurd hi List.not_mem_nil
  · by_cases e : p = []
    · subst e
      rw [hr] at hp
      cases hp
      have hc := h.cell [] b m hr
      have := blk_set hc 0 (.bool true)
      rw [this]
      simp
    · have hne : b' ≠ b := fun e2 => e (h.inj p [] _ _ hp hr (.inl e2))
      rw [hoth b' hne, h.cell p b' m' hp]
      have e3 : decide (p ∈ W ++ [[]]) = decide (p ∈ W) := decide_eq_decide.2 (by rw [List.mem_append, List.mem_singleton]; simp [e])
      rw [e3]
  · exact (h.kids p b' m' hp).kept (hoth m' (h.cells hr p _ hp).1.symm)
theorem Turn.set {w : World} {b j : Nat} {v : Value} {S : Nat → Prop} (hS : S b) : Turn w (w.setCell ⟨b, j, none⟩ v) S :=
  ⟨rfl, rfl, rfl, by rw [World.size_setCell]; exact Nat.le_refl _, fun k _ hn => Below.heap_setCell _ _ _ _ (by show k ≠ b; rintro rfl; exact hn hS)⟩

end Go.Proofs.YtejpjclbeogajaaDoor

/-
  A statement that leaves its order open, whose callees write: if the calls (and stores) stand in one forced order, each with a value that is known, and all else only reads what they leave alone,
  one walk in the order of the text, the calls' values put in, serves every order.
-/
namespace Go.Proofs.YtejpjclbeogajaaDoor
open Go.RowKit
set_option linter.unusedVariables false
set_option linter.unusedSimpArgs false

/-- an operation that enters no function -/
def NoEnter (P : Program) (o : Oper) : Prop := ∀ (a : Act) (w w' : World) (f : FuncId) (args : Array Value), (execOp a.eval o).run P w ≠ .ok (.enter f args) w'

/-- the region's operations, the effects' values put in -/
def effL (E : List (Nat × Value)) : Nat → List Oper → List Oper
  | _, [] => []
  | j, o :: l => (match E.lookup j with | some v => { o with op := .move (.const v) } | none => o) :: effL E (j + 1) l
theorem effL_len (E : List (Nat × Value)) : ∀ (l : List Oper) (j : Nat), (effL E j l).length = l.length
  | [], _ => rfl
  | o :: l, j => by simp only [effL, List.length_cons, effL_len E l]
theorem effL_at (E : List (Nat × Value)) : ∀ (l : List Oper) (j i : Nat), (effL E j l)[i]? = (l[i]?).map fun o => match E.lookup (j + i) with | some v => { o with op := .move (.const v) } | none => o
  | [], _, _ => rfl
  | o :: l, j, 0 => rfl
  | o :: l, j, i + 1 => by
    simp only [effL, List.getElem?_cons_succ]
    rw [effL_at E l (j + 1) i, show j + 1 + i = j + (i + 1) by omega]

/-- whoever writes these temporaries is waited for -/
def readsB (l : List Oper) (s : Nat) (T : List Tmp) : Bool :=
  T.all fun t => (List.range l.length).all fun j => match l[j]? with | some o => !(o.dst == some t) || Region.waitsFor .any l.toArray s j | none => true
def pathB (l : List Oper) : Nat → List Nat → Bool
  | _, [] => true
  | j, i :: r => Region.waitsFor .any l.toArray j i && pathB l i r
/-- every edge leads back -/
def ordB (l : List Oper) : Bool := (List.range l.length).all fun j => match l[j]? with | some o => o.after.all fun e => !Region.binds .any e || decide (e.on < j) | none => true

def OnAt (l : List Oper) (af : Act) (s : Nat) (o : Oper) : Prop :=
  o.guard = none ∨ ∃ g want t, o.guard = some (g, want) ∧ (l[g]?).bind (·.dst) = some t ∧ readsB l s [t] = true ∧ af.eval (.tmp t) = .bool want
def OffAt (l : List Oper) (af : Act) (s : Nat) (o : Oper) : Prop :=
  ∃ g want t, o.guard = some (g, want) ∧ (l[g]?).bind (·.dst) = some t ∧ readsB l s [t] = true ∧ af.eval (.tmp t) ≠ .bool want

theorem agree {P : Program} {md : Region.Mode} {ops' : Array Oper} {C : World → Prop} {af : Act} (t : Tmp) : ∀ (fuel : Nat) (listed : Array Bool) (a : Act), wpAnyQ P md ops' C (fun a' => a' = af) fuel listed a →
    (∀ j o, listed.getD j true = false → ops'[j]? = some o → o.dst ≠ some t) → a.eval (.tmp t) = af.eval (.tmp t) := by
  intro fuel
  induction fuel with
  | zero => intro listed a h _; rw [h.2]
  | succ fuel ih =>
    intro listed a h hd
    by_cases hr : Region.ready md ops' listed = []
    · rw [h.1 hr]
    · obtain ⟨i, hi⟩ := List.exists_mem_of_ne_nil _ hr
      have hq := h.2 i hi
      obtain ⟨hun, o, ho, _⟩ := mem_ready.1 hi
      obtain ⟨v, _, hk⟩ := yieldsIn_of_qOp ho hq
      have hne := hd i o hun ho
      rw [← eval_put_ne a o.dst v t hne]
      refine ih _ _ hk (fun j oj hj hoj => ?_)
      by_cases hji : i = j
      · subst hji
        rw [Option.some.inj (hoj.symm.trans ho)]; exact hne
      · rw [getD_set_ne true hji] at hj
        exact hd j oj hj hoj

theorem wanted_of {o : Oper} {ops : Array Oper} {tmps : Array Value} {g : Nat} {want b : Bool} {t : Tmp} (hg : o.guard = some (g, want)) (hd : (ops[g]?).bind (·.dst) = some t) (a : Act) (ha : a.tmps = tmps) (hv : a.eval (.tmp t) = .bool b) :
    Region.wanted o (yielded ops tmps) = (b == want) := by
  have h1 : tmps[t]? = some (.bool b) := by
    simp only [Act.eval] at hv
    rw [ha, Array.getD_eq_getD_getElem?] at hv
    cases h : tmps[t]? with
    | none => rw [h] at hv; cases hv
    | some x => rw [h] at hv; simp at hv; rw [hv]
  unfold Region.wanted
  rw [hg]
  simp only [yielded, hd, Option.bind_some, h1]
  cases b <;> cases want <;> rfl

theorem unwanted_of {o : Oper} {ops : Array Oper} {tmps : Array Value} {g : Nat} {want : Bool} {t : Tmp} (hg : o.guard = some (g, want)) (hd : (ops[g]?).bind (·.dst) = some t) (a : Act) (ha : a.tmps = tmps) (hv : a.eval (.tmp t) ≠ .bool want) :
    Region.wanted o (yielded ops tmps) = false := by
  have h1 : tmps[t]? ≠ some (.bool want) := by
    intro h
    apply hv
    simp only [Act.eval]
    rw [ha, Array.getD_eq_getD_getElem?, h]; rfl
  unfold Region.wanted
  rw [hg]
  simp only [yielded, hd, Option.bind_some]
  rw [beq_eq_false_iff_ne]
  split
  · rename_i b hb
    intro e
    obtain rfl := Option.some.inj e
    exact h1 hb
  · intro e; cases e

theorem path_listed {l : List Oper} {listed : Array Bool} (hcl : ∀ j o, l.toArray[j]? = some o → listed.getD j false = true → ∀ e ∈ o.after, Region.binds .any e = true → listed.getD e.on false = true) :
    ∀ (r : List Nat) (j : Nat), pathB l j r = true → (∀ i, Region.waitsFor .any l.toArray j i = true → listed.getD i false = true) → ∀ i ∈ r, listed.getD i false = true := by
  intro r
  induction r with
  | nil => intro j _ _ i hi; cases hi
  | cons x r ih =>
    intro j hp hj i hi
    simp only [pathB, Bool.and_eq_true] at hp
    have hx := hj x hp.1
    rcases List.mem_cons.1 hi with rfl | hi
    · exact hx
    · refine ih x hp.2 (fun i2 hw => ?_) i hi
      obtain ⟨ox, hox, e, he, hb, hon⟩ := Region.waitsFor_spec hw
      have := hcl x ox hox hx e he hb
      rw [hon] at this; exact this

structure EffOk (P : Program) (l : List Oper) (E : List (Nat × Value)) (D : Nat → World → Prop) (af : Act) : Prop where
  plain : ∀ (j : Nat) (o : Oper), l[j]? = some o → E.lookup j = none → NoEnter P o ∨ OffAt l af j o
  eff : ∀ (k s : Nat) (v : Value), E[k]? = some (s, v) → E.lookup s = some v ∧ ∃ o, l[s]? = some o ∧ OnAt l af s o ∧ ∃ T, readsB l s T = true ∧
    ∀ (a : Act) (w : World) (K : Act → World → Prop) (Q' : Exit → Act → World → Prop), (∀ t ∈ T, a.eval (.tmp t) = af.eval (.tmp t)) → D k w → (∀ w', D (k + 1) w' → K (a.put o.dst v) w') → o.wp P a w K Q'
  path : ∀ (k s : Nat) (v : Value) (s' : Nat) (v' : Value), E[k]? = some (s, v) → E[k + 1]? = some (s', v') → ∃ r, s ∈ r ∧ pathB l s' r = true
  inj : ∀ (k k' s : Nat) (v v' : Value), E[k]? = some (s, v) → E[k']? = some (s, v') → k = k'
  find : ∀ (s : Nat) (v : Value), E.lookup s = some v → ∃ k : Nat, E[k]? = some (s, v)
  ord : ordB l = true

/-- just the first k effects are listed -/
def Lev (E : List (Nat × Value)) (listed : Array Bool) (k : Nat) : Prop := k ≤ E.length ∧ ∀ (i s : Nat) (v : Value), E[i]? = some (s, v) → (listed.getD s false = true ↔ i < k)

theorem wpAny_eff {P : Program} {l : List Oper} {E : List (Nat × Value)} {C : World → Prop} {D : Nat → World → Prop} {af : Act} {Q' : Exit → Act → World → Prop}
    (H : EffOk P l E D af) (hC : ∀ k w, D k w → C w) (hQ : ∀ w, D E.length w → Q' .normal af w) :
    ∀ (fuel : Nat) (listed : Array Bool) (a : Act) (w : World) (k : Nat), listed.size = l.length →
      (∀ j o, l.toArray[j]? = some o → listed.getD j false = true → ∀ e ∈ o.after, Region.binds .any e = true → listed.getD e.on false = true) → Lev E listed k → D k w →
      wpAnyQ P .any (effL E 0 l).toArray C (fun a' => a' = af) fuel listed a → wpAny P .any l.toArray Q' fuel listed a w := by
  have hready : ∀ listed, Region.ready .any (effL E 0 l).toArray listed = Region.ready .any l.toArray listed := by
    intro listed
    unfold Region.ready
    have hsz : (effL E 0 l).toArray.size = l.toArray.size := by simp [effL_len]
    rw [hsz]
    apply List.filter_congr
    intro i _
    simp only [List.getElem?_toArray]
    rw [effL_at]
    cases l[i]? with
    | none => rfl
    | some o =>
      simp only [Option.map_some, Nat.zero_add]
      cases E.lookup i <;> rfl
  have hyld : ∀ t, yielded (effL E 0 l).toArray t = yielded l.toArray t := by
    intro t
    funext j
    unfold yielded
    simp only [List.getElem?_toArray]
    rw [effL_at]
    cases l[j]? with
    | none => rfl
    | some o =>
      simp only [Option.map_some, Option.bind_some, Nat.zero_add]
      cases E.lookup j <;> rfl
  have hfin : ∀ (listed : Array Bool) k, listed.size = l.length → Lev E listed k → Region.ready .any l.toArray listed = [] → k = E.length := by
    intro listed k hsz hl hr
    have key : ∀ i, i < l.length → listed.getD i false = true := by
      intro i
      induction i using Nat.strongRecOn with
      | _ i ih =>
        intro hi
        cases hlf : listed.getD i false with
        | true => rfl
        | false =>
          exfalso
          have hilt : i < listed.size := by omega
          have hmem : i ∈ Region.ready .any l.toArray listed := by
            refine mem_ready.2 ⟨by rw [Array.getD_eq_getD_getElem?, Array.getElem?_eq_getElem hilt] at hlf ⊢; exact hlf, l[i], by simp [hi], fun e he hb => ?_⟩
            have h1 := List.all_eq_true.1 H.ord i (List.mem_range.2 hi)
            rw [List.getElem?_eq_getElem hi] at h1
            have h2 := Array.all_eq_true'.1 h1 e he
            simp only [Bool.or_eq_true, Bool.not_eq_true', decide_eq_true_eq] at h2
            rcases h2 with h2 | h2
            · rw [hb] at h2; cases h2
            · exact ih e.on h2 (by omega)
          rw [hr] at hmem; cases hmem
    by_cases hk : k < E.length
    · rcases hE : E[k] with ⟨s, v⟩
      have hE' : E[k]? = some (s, v) := by rw [List.getElem?_eq_getElem hk, hE]
      obtain ⟨_, o, ho, _⟩ := H.eff k s v hE'
      have := (hl.2 k s v hE').1 (key s (List.getElem?_eq_some_iff.1 ho).1)
      omega
    · have := hl.1; omega
  intro fuel
  induction fuel with
  | zero =>
    intro listed a w k hsz hcl hl hD h
    have hr : Region.ready .any l.toArray listed = [] := by rw [← hready]; exact h.1
    have hk := hfin listed k hsz hl hr
    subst hk
    refine ⟨hr, ?_⟩
    rw [h.2]; exact hQ _ hD
  | succ fuel ih =>
    intro listed a w k hsz hcl hl hD h
    refine ⟨fun hr => ?_, fun i hi => ?_⟩
    · have hk := hfin listed k hsz hl hr
      subst hk
      rw [h.1 (by rw [hready]; exact hr)]; exact hQ _ hD
    · have hi' : i ∈ Region.ready .any (effL E 0 l).toArray listed := by rw [hready]; exact hi
      have hq := h.2 i hi'
      have hlt := ready_lt hi
      obtain ⟨hun, o, ho, hall⟩ := mem_ready.1 hi
      have hlo : l[i]? = some o := by simpa using ho
      have hwait : ∀ j, Region.waitsFor .any l.toArray i j = true → listed.getD j false = true := by
        intro j hw
        obtain ⟨oj, hoj, e, he, hb, hon⟩ := Region.waitsFor_spec hw
        have hoe : oj = o := Option.some.inj (hoj.symm.trans ho)
        subst hoe
        have := hall e he hb
        rw [hon] at this; exact this
      have hunf : listed.getD i false = false := by
        rw [Array.getD_eq_getD_getElem?, Array.getElem?_eq_getElem hlt] at hun ⊢
        exact hun
      -- what the temporaries hold that this operation reads
      have hag : ∀ T, readsB l i T = true → ∀ t ∈ T, a.eval (.tmp t) = af.eval (.tmp t) := by
        intro T hT t ht
        have h1 := List.all_eq_true.1 hT t ht
        refine agree t _ _ _ h (fun j oj hj hoj hdt => ?_)
        simp only [List.getElem?_toArray] at hoj
        rw [effL_at] at hoj
        cases hlj : l[j]? with
        | none => rw [hlj] at hoj; cases hoj
        | some o2 =>
          have hjl : j < l.length := (List.getElem?_eq_some_iff.1 hlj).1
          have h2 := List.all_eq_true.1 h1 j (List.mem_range.2 hjl)
          rw [hlj] at h2 hoj
          have hdd : o2.dst = some t := by
            simp only [Option.map_some, Option.some.injEq] at hoj
            rw [← hdt, ← hoj]
            split <;> rfl
          simp only [Bool.or_eq_true, Bool.not_eq_true', beq_eq_false_iff_ne] at h2
          rcases h2 with h2 | h2
          · exact h2 hdd
          · have := hwait j h2
            rw [Array.getD_eq_getD_getElem?, Array.getElem?_eq_getElem (by omega)] at this hj
            rw [Option.getD_some] at this hj
            rw [this] at hj; cases hj
      have hcl2 : ∀ j oj, l.toArray[j]? = some oj → (listed.setIfInBounds i true).getD j false = true → ∀ e ∈ oj.after, Region.binds .any e = true → (listed.setIfInBounds i true).getD e.on false = true := by
        intro j oj hj hlj e he hb
        by_cases hji : i = j
        · subst hji
          have : oj = o := Option.some.inj (hj.symm.trans ho)
          subst this
          exact getD_set_true (hall e he hb)
        · rw [getD_set_ne false hji] at hlj
          exact getD_set_true (hcl j oj hj hlj e he hb)
      have hsz2 : (listed.setIfInBounds i true).size = l.length := by simp [hsz]
      have ho' : (effL E 0 l).toArray[i]? = some (match E.lookup i with | some v => { o with op := .move (.const v) } | none => o) := by
        simp only [List.getElem?_toArray]
        rw [effL_at, hlo]
        simp only [Option.map_some, Nat.zero_add]
      unfold wpOp
      simp only [ho]
      cases hlk : E.lookup i with
      | none =>
        rw [hlk] at ho'
        obtain ⟨v, hy, hk⟩ := yieldsIn_of_qOp ho' hq
        have hl2 : Lev E (listed.setIfInBounds i true) k := by
          refine ⟨hl.1, fun i2 s v2 hs => ?_⟩
          have hne : i ≠ s := by
            intro e; subst e
            rw [(H.eff i2 i v2 hs).1] at hlk; cases hlk
          rw [getD_set_ne false hne]; exact hl.2 i2 s v2 hs
        have hnext := ih _ _ w k hsz2 hcl2 hl2 hD hk
        rcases hy with ⟨hw, hv⟩ | ⟨hw, rfl⟩
        · rw [hyld] at hw
          rw [if_pos hw]
          refine .inl ?_
          have h3 := hv w (hC k w hD)
          rcases H.plain i o hlo hlk with hno | ⟨g, want, t, hg, hd, hrd, hev⟩
          · unfold Oper.quietAt at h3
            unfold Oper.wp
            cases hrun : (execOp a.eval o).run P w with
            | ok n w' =>
              rw [hrun] at h3
              cases n with
              | value u =>
                simp only [Oper.quietUpon] at h3
                simp only [Oper.upon]
                rw [h3.1, h3.2]; exact hnext
              | skip =>
                simp only [Oper.quietUpon] at h3
                simp only [Oper.upon]
                rw [h3.1, ← h3.2]; exact hnext
              | enter f args => exact absurd hrun (hno a w w' f args)
              | _ => exact absurd h3 (by simp [Oper.quietUpon])
            | halt x w' => rw [hrun] at h3; exact absurd h3 (by simp [Oper.quietUpon])
          · have he := hag [t] hrd t (by simp)
            have hw2 := unwanted_of (o := o) (ops := l.toArray) (tmps := a.tmps) hg (by simpa using hd) a rfl (by rw [he]; exact hev)
            rw [hw2] at hw
            cases hw
        · rw [hyld] at hw
          rw [if_neg (by rw [hw]; simp)]
          exact hnext
      | some v =>
        rw [hlk] at ho'
        obtain ⟨k2, hk2⟩ := H.find i v hlk
        obtain ⟨_, o2, ho2, hon, T, hT, hwp⟩ := H.eff k2 i v hk2
        have hoo : o2 = o := Option.some.inj (ho2.symm.trans hlo)
        subst hoo
        have hk2k : ¬ k2 < k := fun hlt2 => by
          have := (hl.2 k2 i v hk2).2 hlt2
          rw [hunf] at this; cases this
        have hE2 : k2 < E.length := (List.getElem?_eq_some_iff.1 hk2).1
        have hkk : k = k2 := by
          by_cases e : k = k2
          · exact e
          · exfalso
            have hlt2 : k < k2 := by omega
            obtain ⟨k3, rfl⟩ : ∃ k3, k2 = k3 + 1 := ⟨k2 - 1, by omega⟩
            rcases hE3 : E[k3]'(by omega) with ⟨s3, v3⟩
            have hE3' : E[k3]? = some (s3, v3) := by rw [List.getElem?_eq_getElem (by omega), hE3]
            obtain ⟨r, hr1, hr2⟩ := H.path k3 s3 v3 i v hE3' hk2
            have h3l := path_listed hcl r i hr2 hwait s3 hr1
            have := (hl.2 k3 s3 v3 hE3').1 h3l
            omega
        subst hkk
        have hwd : Region.wanted o2 (yielded l.toArray a.tmps) = true := by
          rcases hon with hg | ⟨g, want, t, hg, hd, hrd, hev⟩
          · unfold Region.wanted; rw [hg]
          · have he := hag [t] hrd t (by simp)
            rw [hev] at he
            rw [wanted_of (o := o2) (ops := l.toArray) (tmps := a.tmps) hg (by simpa using hd) a rfl he]
            simp
        obtain ⟨v2, hy, hk⟩ := yieldsIn_of_qOp ho' hq
        have hvv : v2 = v := by
          rcases hy with ⟨hw, hv⟩ | ⟨hw, _⟩
          · have h3 := hv w (hC k w hD)
            unfold Oper.quietAt at h3
            rw [BigFrame.run_move (.const v) rfl] at h3
            simp only [Oper.quietUpon, Act.eval] at h3
            exact h3.2.symm
          · rw [hyld] at hw
            have : Region.wanted ({ o2 with op := .move (.const v) } : Oper) (yielded l.toArray a.tmps) = Region.wanted o2 (yielded l.toArray a.tmps) := rfl
            rw [this, hwd] at hw; cases hw
        rw [hvv] at hk
        have hl2 : Lev E (listed.setIfInBounds i true) (k + 1) := by
          refine ⟨hE2, fun i2 s v3 hs => ?_⟩
          by_cases hsi : i = s
          · subst hsi
            have : i2 = k := H.inj i2 k i v3 v hs hk2
            subst this
            rw [getD_set_self hlt]
            exact ⟨fun _ => Nat.lt_succ_self _, fun _ => rfl⟩
          · rw [getD_set_ne false hsi, hl.2 i2 s v3 hs]
            constructor
            · intro h1; omega
            · intro h1
              by_cases e : i2 = k
              · subst e
                have : s = i := by
                  have := hs.symm.trans hk2
                  simp only [Option.some.injEq, Prod.mk.injEq] at this
                  exact this.1
                exact absurd this.symm hsi
              · omega
        rw [if_pos hwd]
        refine .inl (hwp a w _ _ (hag T hT) hD (fun w' hD' => ?_))
        exact ih _ _ w' (k + 1) hsz2 hcl2 hl2 hD' hk

theorem wp_region_eff {P : Program} {id : Nat} {Q : Exit → Act → World → Prop} {a : Act} {w : World} {l : List Oper} (E : List (Nat × Value)) (C : World → Prop) (D : Nat → World → Prop) (af : Act)
    (hm : P.follows .mixedOrders = true) (hlex : Region.lexB .any (effL E 0 l).toArray = true) (hC : ∀ k w, D k w → C w) (hD0 : D 0 (w.drewN 1))
    (hwalk : wpQuiet P (effL E 0 l).toArray C (fun a' => a' = af) (effL E 0 l) a) (H : EffOk P l E D af) (hE : ∀ s v, (s, v) ∈ E → s < l.length) (hend : ∀ w', D E.length w' → Q .normal af w') :
    (Code.region id l.toArray true).wp P Q a w := by
  refine wp_region_any hm ?_
  have hlex' := hlex
  simp only [Region.lexB, Bool.and_eq_true] at hlex'
  have hlx := wpAnyQ_lex (C := C) (md := .any) hlex'.1 (effL E 0 l) 0 (Array.replicate (effL E 0 l).toArray.size false) a (by simp) (by simpa using hlex'.2) hwalk
  have hsz : (effL E 0 l).toArray.size = l.toArray.size := by simp [effL_len]
  rw [hsz] at hlx
  have hln : (effL E 0 l).length = l.toArray.size := by simp [effL_len]
  rw [hln] at hlx
  have hrep : ∀ j, j < l.toArray.size → (Array.replicate l.toArray.size false).getD j false = false := by
    intro j hj
    rw [Array.getD_eq_getD_getElem?, Array.getElem?_eq_getElem (by simpa using hj)]; simp
  refine wpAny_eff H hC hend _ _ _ _ 0 (by simp) (fun j o ho hl => ?_) ⟨Nat.zero_le _, fun i s v hs => ?_⟩ hD0 hlx
  · have hj : j < l.toArray.size := (Array.getElem?_eq_some_iff.1 ho).1
    rw [hrep j hj] at hl; cases hl
  · have hsl := hE s v (List.mem_of_getElem? hs)
    rw [hrep s (by simpa using hsl)]
    constructor
    · intro h; cases h
    · intro h; omega

end Go.Proofs.YtejpjclbeogajaaDoor

/-
  Operations that enter no function (for Eff's laws).
-/
namespace Go.Proofs.YtejpjclbeogajaaDoor
open Go.RowKit
set_option linter.unusedVariables false
set_option linter.unusedSimpArgs false

theorem run_val {P : Program} {s : Sem Value} {w w' : World} {x : Next} (h : (do pure (Next.value (← s)) : Sem Next).run P w = .ok x w') : ∃ u, x = .value u := by
  rw [Sem.run_bind] at h
  cases hs : s.run P w with
  | ok u w1 => rw [hs] at h; simp [Result.andThen, Sem.run_pure] at h; exact ⟨u, h.1.symm⟩
  | halt c w1 => rw [hs] at h; simp [Result.andThen] at h

def plainB : Op → Bool
  | .move _ => true
  | .assign _ => true
  | .pick _ _ _ => true
  | .load _ _ => true
  | .fieldAddr _ _ _ => true
  | .indexAddr _ _ _ => true
  | .unOp _ _ _ => true
  | .binOp _ _ _ _ _ => true
  | _ => false
theorem plain_noEnter {P : Program} (o : Oper) (h : plainB o.op = true) : NoEnter P o := by
  intro a w w' f args e
  obtain ⟨d, op, ty, ps, af, gd⟩ := o
  cases op with
  | move x => simp [execOp] at e
  | assign x => simp [execOp] at e
  | pick c x y =>
    simp only [execOp] at e
    rw [Sem.run_bind] at e
    cases hs : (asBool (a.eval c)).run P w with
    | ok u w1 => rw [hs] at e; simp [Result.andThen, Sem.run_pure] at e
    | halt c w1 => rw [hs] at e; simp [Result.andThen] at e
  | load t x => obtain ⟨u, hu⟩ := run_val (s := Instr.loadAt t (a.eval x)) e; cases hu
  | fieldAddr s x k => obtain ⟨u, hu⟩ := run_val (s := Instr.fieldAt s (a.eval x) k) e; cases hu
  | indexAddr s x k => obtain ⟨u, hu⟩ := run_val (s := Instr.indexAt s (a.eval x) (a.eval k)) e; cases hu
  | unOp b t x => obtain ⟨u, hu⟩ := run_val (s := Op.unary b (a.eval x)) e; cases hu
  | binOp b t x y z => obtain ⟨u, hu⟩ := run_val (s := do eqGuard b t x y (a.eval x) (a.eval y); binOp b t (a.eval x) (a.eval y)) e; cases hu
  | _ => simp [plainB] at h

/-- what is plain but for the effects, and for what is off -/
theorem plain_all {P : Program} {offs : List Nat} {l : List Oper} {E : List (Nat × Value)} {af : Act} (hB : ((List.range l.length).all fun j => (E.lookup j).isSome || (match l[j]? with | some o => plainB o.op | none => true) || offs.contains j) = true)
    (hoff : ∀ j o, offs.contains j = true → l[j]? = some o → OffAt l af j o) : ∀ (j : Nat) (o : Oper), l[j]? = some o → E.lookup j = none → NoEnter P o ∨ OffAt l af j o := by
  intro j o hj he
  have hlt : j < l.length := (List.getElem?_eq_some_iff.1 hj).1
  have h := List.all_eq_true.1 hB j (List.mem_range.2 hlt)
  rw [he, hj] at h
  simp only [Option.isSome_none, Bool.false_or, Bool.or_eq_true] at h
  rcases h with h | h
  · exact .inl (plain_noEnter o h)
  · exact .inr (hoff j o h hj)

end Go.Proofs.YtejpjclbeogajaaDoor
