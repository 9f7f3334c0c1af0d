/-
  schema.names' 'once': a name that may stand once.
-/
import Derived.Test.YtgoaiokpnifhfaaMkB
import Derived.Maps.OwnSet
import Derived.Maps.OwnOps
namespace Go.Proofs.Ytgoaiokpnifhfaa
open Go.RowKit Go.Maps
set_option linter.unusedVariables false
set_option linter.unusedSimpArgs false

theorem plainElem_bool_inv {H : Type} {P : Program} {e : TypeId} (he : P.underlying e = some .bool) {v : Value} {z : DataW H × List MemPlace} (h : plainElem P e v = some z) : ∃ x, v = .bool x ∧ z = (.lit (.bool x), []) := by
  unfold plainElem at h
  rw [he] at h
  cases v <;> simp at h
  exact ⟨_, rfl, h.symm⟩
theorem ownsMap_lookup_bool {H : Type} {P : Program} {w : World} {k t e : TypeId} {b n : Nat} {D : DataW H} (h : w.ownsMap P k (plainElem P e) b n D) (K : Keyed P k) (ht : P.underlying t = some (.map k e)) (he : P.underlying e = some .bool) (hz : (zeroValue e).run P w = .ok (.bool false) w)
    {key : Value} {kl : Lit} (hkey : keyOf P k key = some kl) : ∃ c, (Instr.lookup t (.map (some b)) key false).run P w = .ok (.bool c) w ∧ D.atKey kl (.lit (.bool false)) = .lit (.bool c) := by
  obtain ⟨v, ps, hrun, hv⟩ := h.lookup K ht hz (plainElem_bool he false) hkey
  obtain ⟨c, rfl, hc⟩ := plainElem_bool_inv he hv
  simp only [Prod.mk.injEq] at hc
  exact ⟨c, hrun, hc.1⟩

/-- the names that were met -/
def keyS (s : ByteArray) : Lit := .string s.data.toList
def seenD (used : List ByteArray) : DataW Unit := setOf (.lit (.bool true)) (used.map keyS)
theorem keyS_is (s : ByteArray) : WideAt.IsKeyLit (keyS s) := by unfold keyS; trivial
theorem sameKey_keyS (a b : ByteArray) : (keyS a).sameKey (keyS b) = eqS a b := by
  by_cases h : a = b
  · subst h; rw [(eqS_iff a a).2 rfl]; simp [keyS, Lit.sameKey]
  · have h1 : eqS a b = false := by
      cases he : eqS a b with
      | false => rfl
      | true => exact absurd ((eqS_iff a b).1 he) h
    rw [h1]
    refine sameKey_ne fun e => h ?_
    have e2 : a.data.toList = b.data.toList := by simpa [keyS] using e
    exact (eqS_iff a b).1 (by unfold eqS; rw [e2]; simp)
theorem atKey_fold (k : Lit) (z d : DataW Unit) : ∀ (acc : List Lit) (m : DataW Unit), IsMap m → (∀ x ∈ acc, WideAt.IsKeyLit x) → (acc.foldl (fun m x => m.put x d) m).atKey k z = if acc.any (fun x => x.sameKey k) then d else m.atKey k z := by
  intro acc
  induction acc with
  | nil => intro m _ _; simp
  | cons a acc ih =>
    intro m hm hk
    simp only [List.foldl_cons, List.any_cons]
    rw [ih _ (hm.put a d) (fun x hx => hk x (List.mem_cons_of_mem _ hx))]
    by_cases h : a = k
    · subst h
      rw [atKey_put_same hm (hk a (by simp))]
      have : a.sameKey a = true := by
        have := has_put_same (isMap_empty (H := Unit)) (hk a (by simp)) d
        simpa [DataW.put, has, DataW.insert] using this
      simp [this]
    · rw [atKey_put_other (Ne.symm h)]; simp [sameKey_ne h]
theorem seen_at (used : List ByteArray) (s : ByteArray) : (seenD used).atKey (keyS s) (.lit (.bool false)) = .lit (.bool (used.any fun t => eqS t s)) := by
  unfold seenD setOf
  rw [atKey_fold _ _ _ _ _ isMap_empty (fun x hx => by obtain ⟨y, _, rfl⟩ := List.mem_map.1 hx; exact keyS_is y)]
  rw [List.any_map]
  have e : (used.any ((fun x => x.sameKey (keyS s)) ∘ keyS)) = used.any fun t => eqS t s := congrArg used.any (funext fun t => sameKey_keyS t s)
  rw [e]
  cases used.any fun t => eqS t s <;> simp [DataW.atKey]
theorem seen_snoc (used : List ByteArray) (s : ByteArray) : seenD (used ++ [s]) = (seenD used).put (keyS s) (.lit (.bool true)) := by
  unfold seenD
  rw [List.map_append, List.map_singleton, setOf_snoc]

theorem strKeyed : Keyed Try.prog 9 := string_keyed Try.underlying9
theorem keyOfS {s : ByteArray} (h : s.size ≤ maxLen) : keyOf Try.prog 9 (.string s) = some (keyS s) := Go.WideMaps.keyOf_string_mk Try.underlying9 h
/-- the map of the names -/
def SeenAt (w : World) (B n : Nat) (used : List ByteArray) : Prop := w.ownsMap Try.prog 9 (plainElem Try.prog 4) B n (seenD used)

theorem zeroBool (w : World) : (zeroValue 4).run Try.prog w = .ok (.bool false) w := by kernel_rfl
theorem SeenAt.look {w : World} {B n : Nat} {used : List ByteArray} (h : SeenAt w B n used) {s : ByteArray} (hs : s.size ≤ maxLen) : (Instr.lookup 116 (.map (some B)) (.string s) false).run Try.prog w = .ok (.bool (used.any fun t => eqS t s)) w := by
  obtain ⟨c, hrun, hat⟩ := ownsMap_lookup_bool h strKeyed Try.underlying116 Try.underlying4 (zeroBool w) (keyOfS hs)
  rw [seen_at] at hat
  rw [hrun]
  simp only [DataW.lit.injEq, Lit.bool.injEq] at hat
  rw [hat]

theorem SeenAt.below {w w' : World} {B n : Nat} {used : List ByteArray} (h : SeenAt w B n used) (hb : Below w.heap.size w w') : SeenAt w' B n used := by
  obtain ⟨es, clock, h1, h2⟩ := h
  exact ⟨es, clock, blk_below h1 hb (blk_lt h1), h2⟩
theorem SeenAt.alloc {w : World} {B n : Nat} {used : List ByteArray} (h : SeenAt w B n used) (o : Obj) : SeenAt (w.alloc o) B n used := h.below (below1 _ _)

theorem list_eqS (s : ByteArray) : (s.toList == [108, 105, 115, 116]) = eqS s cList := by rw [eqS, ← Go.ByteArray.toList_eq]; rfl
set_option maxHeartbeats 1000000 in
set_option maxRecDepth 100000 in
/-- a name that is taken -/
theorem once_taken (s : ByteArray) (p : Nat) (C B n : Nat) (used : List ByteArray) (w : World) (hs : s.size ≤ maxLen) (hC : w.heap[C]? = some (.cells #[.map (some B)] 116 (0, 0))) (hS : SeenAt w B n used) (ht : takenB used s = true) :
    Calls Try.prog 57 #[.string s, .int .i64 (p : Int), .pointer (some ⟨C, 0, none⟩)] w fun e w' => e = .returned (.agg #[.int .i64 13, .int .i64 (p : Int)]) ∧ Below w.heap.size w w' := by
  obtain ⟨W, hW⟩ : ∃ W, W = w.alloc (Obj.cells #[.int .i64 0, .int .i64 0] 30) := ⟨_, rfl⟩
  go_enter Try.func57, Try.ntmps57
  go_wp2_with fail
  rw [← hW]
  have hC1 : W.heap[C]? = some (.cells #[.map (some B)] 116 (0, 0)) := by rw [hW]; exact blk_alloc hC _
  have hS1 : SeenAt W B n used := by rw [hW]; exact hS.alloc _
  have hRW : W.heap[w.heap.size]? = some (.cells #[.int .i64 0, .int .i64 0] 30 (0, 0)) := by rw [hW]; exact blk_new _ _
  have hbW : Below w.heap.size w W := by rw [hW]; exact below1 _ _
  refine (basic_calls s W).mono ?_
  rintro e w1 ⟨kd, rfl, _, hB1⟩
  have hC2 := blk_below hC1 hB1 (blk_lt hC1)
  have hR2 := blk_below hRW hB1 (blk_lt hRW)
  have c0 : w1.cell? ⟨C, 0, none⟩ = some (.map (some B)) := by rw [blk_cell hC2]; rfl
  have f0 := blk_frozen hR2 0
  have f1 := blk_frozen hR2 1
  have r0 : w1.cell? ⟨w.heap.size, 0, none⟩ = some (.int .i64 0) := by rw [blk_cell hR2]; rfl
  have r1 : w1.cell? ⟨w.heap.size, 1, none⟩ = some (.int .i64 0) := by rw [blk_cell hR2]; rfl
  have hS2 := hS1.below hB1
  have hlk := hS2.look hs
  have lC := blk_lt hC2
  have lR := blk_lt hR2
  have lB := hS.lt
  have HR2 := Lib.hid hR2
  have HB1 := Lib.hid (hbW.trans (hB1.mono hbW.size))
  have HS2 := Lib.hid hS2
  have hl := list_eqS s
  clear hC hC1 hS hS1 hRW hbW hB1 hC2 hR2 hW hS2
  obtain ⟨b1, hb1⟩ : ∃ b, b = decide (basicK s ≠ 0) := ⟨_, rfl⟩
  obtain ⟨b2, hb2⟩ : ∃ b, b = used.any fun t => eqS t s := ⟨_, rfl⟩
  obtain ⟨b3, hb3⟩ : ∃ b, b = eqS s cList := ⟨_, rfl⟩
  rw [takenB, ← hb1, ← hb2, ← hb3] at ht
  rw [← hb2] at hlk
  rw [← hb3] at hl
  rw [← hb1]
  clear hb1 hb2 hb3
  cases b1 with
  | true =>
    go_wp2_with fail
    refine bodyPost_ret (v := .agg #[.int .i64 13, .int .i64 (p : Int)]) (by simp [results, Try.results57, go_sem, *]) rfl ⟨rfl, ?_⟩
    have hB := HB1.out
    (repeat' (first | (with_reducible exact Below.refl _ _) | (with_reducible assumption) | (with_reducible refine Below.alloc ?_ ?_ _) | (with_reducible refine Below.drew ?_) | (with_reducible refine Below.setCell ?_ ?_ _) | (with_reducible refine Below.trans ?_ (Below.mono (by assumption) ?_)) | go_size))
  | false =>
    cases b2 with
    | true =>
      go_wp2_with fail
      refine bodyPost_ret (v := .agg #[.int .i64 13, .int .i64 (p : Int)]) (by simp [results, Try.results57, go_sem, *]) rfl ⟨rfl, ?_⟩
      have hB := HB1.out
      (repeat' (first | (with_reducible exact Below.refl _ _) | (with_reducible assumption) | (with_reducible refine Below.alloc ?_ ?_ _) | (with_reducible refine Below.drew ?_) | (with_reducible refine Below.setCell ?_ ?_ _) | (with_reducible refine Below.trans ?_ (Below.mono (by assumption) ?_)) | go_size))
    | false =>
      obtain rfl : b3 = true := by simpa using ht
      go_wp2_with fail
      refine bodyPost_ret (v := .agg #[.int .i64 13, .int .i64 (p : Int)]) (by simp [results, Try.results57, go_sem, *]) rfl ⟨rfl, ?_⟩
      have hB := HB1.out
      (repeat' (first | (with_reducible exact Below.refl _ _) | (with_reducible assumption) | (with_reducible refine Below.alloc ?_ ?_ _) | (with_reducible refine Below.drew ?_) | (with_reducible refine Below.setCell ?_ ?_ _) | (with_reducible refine Below.trans ?_ (Below.mono (by assumption) ?_)) | go_size))
set_option maxHeartbeats 1000000 in
set_option maxRecDepth 100000 in
/-- a new one -/
theorem once_new (s : ByteArray) (p : Nat) (C B n : Nat) (used : List ByteArray) (w : World) (hs : s.size ≤ maxLen) (hn : n < maxLen) (hC : w.heap[C]? = some (.cells #[.map (some B)] 116 (0, 0))) (hS : SeenAt w B n used) (ht : takenB used s = false) :
    Calls Try.prog 57 #[.string s, .int .i64 (p : Int), .pointer (some ⟨C, 0, none⟩)] w fun e w' => e = .returned (.agg #[.int .i64 0, .int .i64 0]) ∧ SeenAt w' B (n + 1) (used ++ [s]) ∧ w.grownBy w' (some B) := by
  obtain ⟨W, hW⟩ : ∃ W, W = w.alloc (Obj.cells #[.int .i64 0, .int .i64 0] 30) := ⟨_, rfl⟩
  go_enter Try.func57, Try.ntmps57
  go_wp2_with fail
  rw [← hW]
  have hC1 : W.heap[C]? = some (.cells #[.map (some B)] 116 (0, 0)) := by rw [hW]; exact blk_alloc hC _
  have hS1 : SeenAt W B n used := by rw [hW]; exact hS.alloc _
  have hRW : W.heap[w.heap.size]? = some (.cells #[.int .i64 0, .int .i64 0] 30 (0, 0)) := by rw [hW]; exact blk_new _ _
  have hbW : Below w.heap.size w W := by rw [hW]; exact below1 _ _
  refine (basic_calls s W).mono ?_
  rintro e w1 ⟨kd, rfl, _, hB1⟩
  have hC2 := blk_below hC1 hB1 (blk_lt hC1)
  have hR2 := blk_below hRW hB1 (blk_lt hRW)
  have c0 : w1.cell? ⟨C, 0, none⟩ = some (.map (some B)) := by rw [blk_cell hC2]; rfl
  have f0 := blk_frozen hR2 0
  have f1 := blk_frozen hR2 1
  have r0 : w1.cell? ⟨w.heap.size, 0, none⟩ = some (.int .i64 0) := by rw [blk_cell hR2]; rfl
  have r1 : w1.cell? ⟨w.heap.size, 1, none⟩ = some (.int .i64 0) := by rw [blk_cell hR2]; rfl
  have hS2 := hS1.below hB1
  have hlk := hS2.look hs
  have lC := blk_lt hC2
  have lR := blk_lt hR2
  have lB := hS.lt
  have HR2 := Lib.hid hR2
  have HB1 := Lib.hid (hbW.trans (hB1.mono hbW.size))
  have HS2 := Lib.hid hS2
  have hl := list_eqS s
  clear hC hC1 hS hS1 hRW hbW hB1 hC2 hR2 hW hS2
  obtain ⟨b1, hb1⟩ : ∃ b, b = decide (basicK s ≠ 0) := ⟨_, rfl⟩
  obtain ⟨b2, hb2⟩ : ∃ b, b = used.any fun t => eqS t s := ⟨_, rfl⟩
  obtain ⟨b3, hb3⟩ : ∃ b, b = eqS s cList := ⟨_, rfl⟩
  rw [takenB, ← hb1, ← hb2, ← hb3] at ht
  rw [← hb2] at hlk
  rw [← hb3] at hl
  rw [← hb1]
  clear hb1 hb2 hb3
  have h3 : b1 = false ∧ b2 = false ∧ b3 = false := by cases b1 <;> cases b2 <;> cases b3 <;> simp_all
  obtain ⟨rfl, rfl, rfl⟩ := h3
  clear ht
  have hkey := keyOfS hs
  go_wp2_with (at_mapUpdate; refine wpList_mapUpdate_own _ rfl _ _ _ 116 rfl 9 4 strKeyed Try.underlying116 _ B n _ rfl HS2.out hn _ _ _ rfl rfl hkey _ [] (plainElem_bool Try.underlying4 true) ?_)
  intro w2 hown2 hgr2
  have hR3 := (hgr2.block _ lR (fun e => by have := Option.some.inj e; omega)).trans HR2.out
  have f0 := blk_frozen hR3 0
  have f1 := blk_frozen hR3 1
  have r0 : w2.cell? ⟨w.heap.size, 0, none⟩ = some (.int .i64 0) := by rw [blk_cell hR3]; rfl
  have r1 : w2.cell? ⟨w.heap.size, 1, none⟩ = some (.int .i64 0) := by rw [blk_cell hR3]; rfl
  have lR3 := blk_lt hR3
  go_wp2_with fail
  refine bodyPost_ret (v := .agg #[.int .i64 0, .int .i64 0]) (by simp [results, Try.results57, go_sem, *]) rfl ⟨rfl, ?_, ?_⟩
  · rw [SeenAt, seen_snoc]
    exact (hown2.setCell (by show B ≠ w.heap.size; omega) _).setCell (by show B ≠ w.heap.size; omega) _
  · have hB := HB1.out
    have h1 := hgr2.size
    have h2 := hB.size
    exact ⟨hgr2.os.trans hB.os, hgr2.tape.trans hB.tape, hgr2.output.trans hB.output, by rw [World.size_setCell, World.size_setCell]; omega, fun i hi hne => by
      rw [Below.heap_setCell _ _ _ _ (by show i ≠ w.heap.size; omega), Below.heap_setCell _ _ _ _ (by show i ≠ w.heap.size; omega)]
      exact (hgr2.block i (by omega) hne).trans (hB.block i hi)⟩

end Go.Proofs.Ytgoaiokpnifhfaa
