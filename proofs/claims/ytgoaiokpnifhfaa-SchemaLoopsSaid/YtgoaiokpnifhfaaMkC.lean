/-
  schema: the closures that look for a name, and what looks with them.
-/
import Derived.Test.YtgoaiokpnifhfaaMkO
import Derived.Test.YtgoaiokpnifhfaaMakeP
import Derived.Test.YtgoaiokpnifhfaaShelfF
namespace Go.Proofs.Ytgoaiokpnifhfaa
open Go.RowKit
set_option linter.unusedVariables false
set_option linter.unusedSimpArgs false

theorem toList_eqS (a b : ByteArray) : (a.toList == b.toList) = eqS a b := by rw [eqS, ← Go.ByteArray.toList_eq, ← Go.ByteArray.toList_eq]
theorem idxBy_ix {α : Type} [Inhabited α] (zs : List α) (p : α → Bool) (d : α) : Lib.idxBy (fun _ y => p y) (zs.take zs.length) d = match firstIx zs.length (fun i => p zs[i]!) with | some i => (i : Int) | none => -1 := by
  cases h : firstIx zs.length (fun i => p zs[i]!) with
  | some i =>
    obtain ⟨h1, h2, h3⟩ := firstIx_spec h
    exact Lib.idxBy_hit (fun _ y => p y) zs zs.length i d h1 (Nat.le_refl _) h2 h3
  | none => exact Lib.idxBy_miss (fun _ y => p y) zs zs.length d (firstIx_none.1 h)
theorem find_congr {α : Type} {p q : α → Bool} : ∀ {l : List α}, (∀ x ∈ l, p x = q x) → l.find? p = l.find? q := by
  intro l
  induction l with
  | nil => intro _; rfl
  | cons a l ih =>
    intro h
    rw [List.find?_cons, List.find?_cons, h a (by simp), ih (fun x hx => h x (List.mem_cons_of_mem _ hx))]
/-- where the first of so many stands, as Go says it -/
def ixV (o : Option Nat) : Int := match o with | some i => (i : Int) | none => -1

def tokL (t : Tok) : List Value := [.int .i64 t.kind, .string t.text, .int .i64 (t.pos : Int)]
def hdL (x : ByteArray × Int × Value) : List Value := [.string x.1, .int .i64 x.2.1, x.2.2]
instance : Inhabited Value := ⟨undef⟩
instance : Inhabited Tok := ⟨tok0⟩
instance : Inhabited RField := ⟨fld0⟩
set_option maxRecDepth 100000 in
theorem pred_nameTok (nm : ByteArray) (T : Nat) (w : World) (hT : T < w.heap.size) (hc : w.cell? ⟨T, 1, none⟩ = some (.string nm)) :
    PredBelow Try.prog 60 #[.pointer (some ⟨T, 0, none⟩)] (fun x => .agg (tokL x).toArray) (fun x => eqS x.text nm) w := fun W x hb => by
  have hc' : W.cell? ⟨T, 1, none⟩ = some (.string nm) := (hb.cell (p := ⟨T, 1, none⟩) hT).trans hc
  have hTW : T < W.heap.size := Nat.lt_of_lt_of_le hT hb.size
  have hne : T ≠ W.heap.size := by omega
  have he := toList_eqS x.text nm
  show Calls Try.prog 60 #[.agg #[.int .i64 x.kind, .string x.text, .int .i64 (x.pos : Int)], .pointer (some ⟨T, 0, none⟩)] W fun e w' => e = .returned (.bool (eqS x.text nm)) ∧ Below w.heap.size w w'
  rw [← he]
  clear he
  go_enter Try.func60, Try.ntmps60
  go_wp2
  all_goals (go_ret; exact ⟨by simp_all, hb.alloc hb.size _⟩)
set_option maxRecDepth 100000 in
theorem pred_nameFld (nm : ByteArray) (T : Nat) (w : World) (hT : T < w.heap.size) (hc : w.cell? ⟨T, 0, none⟩ = some (.string nm)) :
    PredBelow Try.prog 62 #[.pointer (some ⟨T, 0, none⟩)] (fun x => .agg (fldL x).toArray) (fun x => eqS x.name nm) w := fun W x hb => by
  have hc' : W.cell? ⟨T, 0, none⟩ = some (.string nm) := (hb.cell (p := ⟨T, 0, none⟩) hT).trans hc
  have hTW : T < W.heap.size := Nat.lt_of_lt_of_le hT hb.size
  have hne : T ≠ W.heap.size := by omega
  have he := toList_eqS x.name nm
  show Calls Try.prog 62 #[.agg #[.string x.name, .int .i64 (x.pos : Int), .string x.ty.name, .int .i64 (x.ty.lists : Int), .int .i64 (x.ty.pos : Int), .int .i64 x.df.kind, .string x.df.text, .int .i64 (x.df.pos : Int)], .pointer (some ⟨T, 0, none⟩)] W fun e w' => e = .returned (.bool (eqS x.name nm)) ∧ Below w.heap.size w w'
  rw [← he]
  clear he
  go_enter Try.func62, Try.ntmps62
  go_wp2
  all_goals (go_ret; exact ⟨by simp_all, hb.alloc hb.size _⟩)
set_option maxRecDepth 100000 in
theorem pred_fieldCho (nm : ByteArray) (T : Nat) (w : World) (hT : T < w.heap.size) (hc : w.cell? ⟨T, 2, none⟩ = some (.string nm)) :
    PredBelow Try.prog 64 #[.pointer (some ⟨T, 0, none⟩)] (fun x => .agg (hdL x).toArray) (fun x => eqS x.1 nm) w := fun W x hb => by
  have hc' : W.cell? ⟨T, 2, none⟩ = some (.string nm) := (hb.cell (p := ⟨T, 2, none⟩) hT).trans hc
  have hTW : T < W.heap.size := Nat.lt_of_lt_of_le hT hb.size
  have hne : T ≠ W.heap.size := by omega
  have he := toList_eqS x.1 nm
  show Calls Try.prog 64 #[.agg #[.string x.1, .int .i64 x.2.1, x.2.2], .pointer (some ⟨T, 0, none⟩)] W fun e w' => e = .returned (.bool (eqS x.1 nm)) ∧ Below w.heap.size w w'
  rw [← he]
  clear he
  go_enter Try.func64, Try.ntmps64
  go_wp2
  all_goals (go_ret; exact ⟨by simp_all, hb.alloc hb.size _⟩)
set_option maxRecDepth 100000 in
theorem pred_fieldRec (nm : ByteArray) (T : Nat) (w : World) (hT : T < w.heap.size) (hc : w.cell? ⟨T, 2, none⟩ = some (.string nm)) :
    PredBelow Try.prog 65 #[.pointer (some ⟨T, 0, none⟩)] (fun x => .agg (hdL x).toArray) (fun x => eqS x.1 nm) w := fun W x hb => by
  have hc' : W.cell? ⟨T, 2, none⟩ = some (.string nm) := (hb.cell (p := ⟨T, 2, none⟩) hT).trans hc
  have hTW : T < W.heap.size := Nat.lt_of_lt_of_le hT hb.size
  have hne : T ≠ W.heap.size := by omega
  have he := toList_eqS x.1 nm
  show Calls Try.prog 65 #[.agg #[.string x.1, .int .i64 x.2.1, x.2.2], .pointer (some ⟨T, 0, none⟩)] W fun e w' => e = .returned (.bool (eqS x.1 nm)) ∧ Below w.heap.size w w'
  rw [← he]
  clear he
  go_enter Try.func65, Try.ntmps65
  go_wp2
  all_goals (go_ret; exact ⟨by simp_all, hb.alloc hb.size _⟩)
set_option maxRecDepth 100000 in
theorem pred_valTok (nm : ByteArray) (T : Nat) (w : World) (hT : T < w.heap.size) (hc : w.cell? ⟨T, 1, none⟩ = some (.string nm)) :
    PredBelow Try.prog 72 #[.pointer (some ⟨T, 0, none⟩)] (fun x => .agg (tokL x).toArray) (fun x => eqS x.text nm) w := fun W x hb => by
  have hc' : W.cell? ⟨T, 1, none⟩ = some (.string nm) := (hb.cell (p := ⟨T, 1, none⟩) hT).trans hc
  have hTW : T < W.heap.size := Nat.lt_of_lt_of_le hT hb.size
  have hne : T ≠ W.heap.size := by omega
  have he := toList_eqS x.text nm
  show Calls Try.prog 72 #[.agg #[.int .i64 x.kind, .string x.text, .int .i64 (x.pos : Int)], .pointer (some ⟨T, 0, none⟩)] W fun e w' => e = .returned (.bool (eqS x.text nm)) ∧ Below w.heap.size w w'
  rw [← he]
  clear he
  go_enter Try.func72, Try.ntmps72
  go_wp2
  all_goals (go_ret; exact ⟨by simp_all, hb.alloc hb.size _⟩)

/-- the roots' first name, for Make -/
theorem pred_makeRec (nm : ByteArray) (R q nr c : Nat) (w : World) (hn : 0 < nr) (hR : R < w.heap.size) (hq : q < w.heap.size) (hc : w.cell? ⟨R, 2, none⟩ = some (.slice (some ⟨q, 0, none⟩) nr c)) (hc1 : w.cell? ⟨q, 1, none⟩ = some (.string nm)) :
    PredBelow Try.prog 52 #[.pointer (some ⟨R, 0, none⟩)] (fun x => .agg (hdL x).toArray) (fun x => eqS x.1 nm) w := fun W x hb => by
  have hc' : W.cell? ⟨R, 2, none⟩ = some (.slice (some ⟨q, 0, none⟩) nr c) := (hb.cell (p := ⟨R, 2, none⟩) hR).trans hc
  have hc1' : W.cell? ⟨q, 1, none⟩ = some (.string nm) := (hb.cell (p := ⟨q, 1, none⟩) hq).trans hc1
  have hRW : R < W.heap.size := Nat.lt_of_lt_of_le hR hb.size
  have hqW : q < W.heap.size := Nat.lt_of_lt_of_le hq hb.size
  have hn2 : (0 : Int) < (nr : Int) := by omega
  have he := toList_eqS x.1 nm
  show Calls Try.prog 52 #[.agg #[.string x.1, .int .i64 x.2.1, x.2.2], .pointer (some ⟨R, 0, none⟩)] W fun e w' => e = .returned (.bool (eqS x.1 nm)) ∧ Below w.heap.size w w'
  rw [← he]
  clear he
  go_enter Try.func52, Try.ntmps52
  go_wp2
  go_quiet (fail)
  go_wp2
  go_ret
  exact ⟨by simp, below_drewN (hb.alloc hb.size _) _⟩

theorem tok_get (l : List Tok) (k : Nat) (hk : k < l.length) : l[k]! = l[k]?.getD tok0 := by rw [getElem!_pos l k hk, List.getElem?_eq_getElem hk]; rfl
theorem cfTok_calls (l : List Tok) (q k c : Nat) (nm : ByteArray) (T : Nat) (w : World) (hk : k ≤ l.length) (hl : l.length ≤ 100000) (hq : q < w.heap.size) (hT : T < w.heap.size) (hc : w.cell? ⟨T, 1, none⟩ = some (.string nm)) (hrow : ToksIn w q l) :
    Calls Try.prog 59 #[.slice (some ⟨q, 0, none⟩) k c, .func (.func 60) #[] #[.pointer (some ⟨T, 0, none⟩)]] w fun e w' => e = .returned (.bool ((l.take k).any fun x => eqS x.text nm)) ∧ Below w.heap.size w w' := by
  have eg : ∀ args w, (callFunc 60 args).run Try.prog w = .ok (.enter 60 args) w := enters_of Try.func60 (by kernel_rfl) rfl
  exact AnyQ.slices_ContainsFunc Try.cfTok 3 Try.isAgg41 Try.sizeOf41 tokL (fun _ => rfl) (fun x => eqS x.text nm) 60 _ eg q 0 k c l w (pred_nameTok nm T w hT hc) hk (by omega) hq (fun j hj i v hi => by
    rw [tok_get l j hj] at hi
    obtain ⟨h0, h1, h2⟩ := hrow j hj
    rw [Nat.zero_add]
    match i, hi with
    | 0, hi => obtain rfl := Option.some.inj hi; exact h0
    | 1, hi => obtain rfl := Option.some.inj hi; exact h1
    | 2, hi => obtain rfl := Option.some.inj hi; exact h2
    | i + 3, hi => simp [tokL] at hi)
theorem fld_get (l : List RField) (k : Nat) (hk : k < l.length) : l[k]! = (l[k]?).getD fld0 := by rw [getElem!_pos l k hk, List.getElem?_eq_getElem hk]; rfl
theorem cfFld_calls (X : RRec) (q k c : Nat) (nm : ByteArray) (T : Nat) (w : World) (hk : k ≤ X.fields.length) (hl : X.fields.length ≤ 100000) (hq : q < w.heap.size) (hT : T < w.heap.size) (hc : w.cell? ⟨T, 0, none⟩ = some (.string nm)) (hrow : ∀ k, k < X.fields.length → FldAt w q k (fx X k)) :
    Calls Try.prog 61 #[.slice (some ⟨q, 0, none⟩) k c, .func (.func 62) #[] #[.pointer (some ⟨T, 0, none⟩)]] w fun e w' => e = .returned (.bool ((X.fields.take k).any fun x => eqS x.name nm)) ∧ Below w.heap.size w w' := by
  have eg : ∀ args w, (callFunc 62 args).run Try.prog w = .ok (.enter 62 args) w := enters_of Try.func62 (by kernel_rfl) rfl
  exact AnyQ.slices_ContainsFunc Try.cfFld 8 Try.isAgg43 Try.sizeOf43 fldL (fun _ => rfl) (fun x => eqS x.name nm) 62 _ eg q 0 k c X.fields w (pred_nameFld nm T w hT hc) hk (by omega) hq (fun j hj i v hi => by
    rw [fld_get X.fields j hj] at hi
    obtain ⟨h0, h1, h2, h3, h4, h5, h6, h7⟩ := hrow j hj
    rw [Nat.zero_add]
    match i, hi with
    | 0, hi => obtain rfl := Option.some.inj hi; exact h0
    | 1, hi => obtain rfl := Option.some.inj hi; exact h1
    | 2, hi => obtain rfl := Option.some.inj hi; exact h2
    | 3, hi => obtain rfl := Option.some.inj hi; exact h3
    | 4, hi => obtain rfl := Option.some.inj hi; exact h4
    | 5, hi => obtain rfl := Option.some.inj hi; exact h5
    | 6, hi => obtain rfl := Option.some.inj hi; exact h6
    | 7, hi => obtain rfl := Option.some.inj hi; exact h7
    | i + 8, hi => simp [fldL] at hi)

/-! ### where a name stands -/
set_option maxRecDepth 100000 in
theorem ixRec_none (a : Option Addr) (c : Nat) (v : Value) (w : World) :
    Calls Try.prog 51 #[.slice a 0 c, v] w fun e w' => e = .returned (.int .i64 (-1)) ∧ Below w.heap.size w w' := by
  go_enter Try.func51, Try.ntmps51
  go_wp2_with fail
  go_loopw [8] (fun v8 wr => v8 = .int .i64 0 ∧ wr = w) (fun _ _ => 0)
  case atStart => exact ⟨rfl, rfl⟩
  case round =>
    obtain ⟨rfl, rfl⟩ := hrel
    go_wp2_with fail
    go_ret
    exact ⟨rfl, Below.refl _ _⟩
set_option maxRecDepth 100000 in
theorem ixCho_none (a : Option Addr) (c : Nat) (v : Value) (w : World) :
    Calls Try.prog 63 #[.slice a 0 c, v] w fun e w' => e = .returned (.int .i64 (-1)) ∧ Below w.heap.size w w' := by
  go_enter Try.func63, Try.ntmps63
  go_wp2_with fail
  go_loopw [8] (fun v8 wr => v8 = .int .i64 0 ∧ wr = w) (fun _ _ => 0)
  case atStart => exact ⟨rfl, rfl⟩
  case round =>
    obtain ⟨rfl, rfl⟩ := hrel
    go_wp2_with fail
    go_ret
    exact ⟨rfl, Below.refl _ _⟩
set_option maxRecDepth 100000 in
theorem ixTok_none (a : Option Addr) (c : Nat) (v : Value) (w : World) :
    Calls Try.prog 70 #[.slice a 0 c, v] w fun e w' => e = .returned (.int .i64 (-1)) ∧ Below w.heap.size w w' := by
  go_enter Try.func70, Try.ntmps70
  go_wp2_with fail
  go_loopw [8] (fun v8 wr => v8 = .int .i64 0 ∧ wr = w) (fun _ _ => 0)
  case atStart => exact ⟨rfl, rfl⟩
  case round =>
    obtain ⟨rfl, rfl⟩ := hrel
    go_wp2_with fail
    go_ret
    exact ⟨rfl, Below.refl _ _⟩

/-- heads that lie in a row: a name, a place, a slice -/
def hdsOf (w : World) (q n : Nat) (nm : Nat → ByteArray) (ps : Nat → Nat) : List (ByteArray × Int × Value) := (List.range n).map fun i => (nm i, (ps i : Int), (w.cell? ⟨q, i * 3 + 2, none⟩).getD undef)
theorem hds_get (w : World) (q n : Nat) (nm : Nat → ByteArray) (ps : Nat → Nat) (j : Nat) (hj : j < n) : (hdsOf w q n nm ps)[j]! = (nm j, (ps j : Int), (w.cell? ⟨q, j * 3 + 2, none⟩).getD undef) := by
  unfold hdsOf
  rw [getElem!_pos _ j (by simpa using hj)]
  simp
theorem ixRec_calls (r : RawD) (hr : r.structs.length ≤ 100000) (a1 a2 a3 : Option Addr) (c : Nat) (w : World) (h : RawRows w a1 a2 a3 r) (g : Nat) (lb : Array Value) (nm : ByteArray) (hp : PredBelow Try.prog g lb (fun x => .agg (hdL x).toArray) (fun x => eqS x.1 nm) w)
    (eg : ∀ args w, (callFunc g args).run Try.prog w = .ok (.enter g args) w) :
    Calls Try.prog 51 #[.slice a1 r.structs.length c, .func (.func g) #[] lb] w fun e w' => e = .returned (.int .i64 (ixV (recIx r nm))) ∧ Below w.heap.size w w' := by
  by_cases h0 : r.structs.length = 0
  · have hi : recIx r nm = none := by unfold recIx; rw [h0]; rfl
    rw [hi, h0]
    exact ixRec_none a1 c _ w
  · obtain ⟨q, a, c', rfl, hq, _⟩ := h.s 0 (by omega)
    have hcall := AnyQ.slices_IndexFunc Try.ixRec 3 Try.isAgg35 Try.sizeOf35 hdL (fun _ => rfl) (fun x => eqS x.1 nm) g lb eg q 0 r.structs.length c (hdsOf w q r.structs.length (fun i => (rx r i).name) (fun i => (rx r i).pos)) w hp (by simp [hdsOf]) (by omega) hq (fun j hj i v hi => by
      have hj' : j < r.structs.length := by simpa [hdsOf] using hj
      rw [hds_get _ _ _ _ _ j hj'] at hi
      obtain ⟨q', a', c'', e, _, h0, h1, h2, _⟩ := h.s j hj'
      obtain rfl : q = q' := by simpa using e
      rw [Nat.zero_add]
      match i, hi with
      | 0, hi => obtain rfl := Option.some.inj hi; exact h0
      | 1, hi => obtain rfl := Option.some.inj hi; exact h1
      | 2, hi => obtain rfl := Option.some.inj hi; rw [h2]; rfl
      | i + 3, hi => simp [hdL] at hi)
    have hl : (hdsOf w q r.structs.length (fun i => (rx r i).name) (fun i => (rx r i).pos)).length = r.structs.length := by simp [hdsOf]
    have e := idxBy_ix (hdsOf w q r.structs.length (fun i => (rx r i).name) (fun i => (rx r i).pos)) (fun x => eqS x.1 nm) default
    rw [hl] at e
    rw [e] at hcall
    have e2 : firstIx r.structs.length (fun i => eqS ((hdsOf w q r.structs.length (fun i => (rx r i).name) (fun i => (rx r i).pos))[i]!).1 nm) = recIx r nm := by
      unfold recIx firstIx
      refine find_congr fun i hi => ?_
      rw [hds_get _ _ _ _ _ i (List.mem_range.1 hi)]
    rw [e2] at hcall
    exact hcall
theorem ixCho_calls (r : RawD) (hr : r.enums.length ≤ 100000) (a1 a2 a3 : Option Addr) (c : Nat) (w : World) (h : RawRows w a1 a2 a3 r) (g : Nat) (lb : Array Value) (nm : ByteArray) (hp : PredBelow Try.prog g lb (fun x => .agg (hdL x).toArray) (fun x => eqS x.1 nm) w)
    (eg : ∀ args w, (callFunc g args).run Try.prog w = .ok (.enter g args) w) :
    Calls Try.prog 63 #[.slice a2 r.enums.length c, .func (.func g) #[] lb] w fun e w' => e = .returned (.int .i64 (ixV (enumIx r nm))) ∧ Below w.heap.size w w' := by
  by_cases h0 : r.enums.length = 0
  · have hi : enumIx r nm = none := by unfold enumIx; rw [h0]; rfl
    rw [hi, h0]
    exact ixCho_none a2 c _ w
  · obtain ⟨q, a, c', rfl, hq, _⟩ := h.e 0 (by omega)
    have hcall := AnyQ.slices_IndexFunc Try.ixCho 3 Try.isAgg97 Try.sizeOf97 hdL (fun _ => rfl) (fun x => eqS x.1 nm) g lb eg q 0 r.enums.length c (hdsOf w q r.enums.length (fun i => (cx r i).name) (fun i => (cx r i).pos)) w hp (by simp [hdsOf]) (by omega) hq (fun j hj i v hi => by
      have hj' : j < r.enums.length := by simpa [hdsOf] using hj
      rw [hds_get _ _ _ _ _ j hj'] at hi
      obtain ⟨q', a', c'', e, _, h0, h1, h2, _⟩ := h.e j hj'
      obtain rfl : q = q' := by simpa using e
      rw [Nat.zero_add]
      match i, hi with
      | 0, hi => obtain rfl := Option.some.inj hi; exact h0
      | 1, hi => obtain rfl := Option.some.inj hi; exact h1
      | 2, hi => obtain rfl := Option.some.inj hi; rw [h2]; rfl
      | i + 3, hi => simp [hdL] at hi)
    have hl : (hdsOf w q r.enums.length (fun i => (cx r i).name) (fun i => (cx r i).pos)).length = r.enums.length := by simp [hdsOf]
    have e := idxBy_ix (hdsOf w q r.enums.length (fun i => (cx r i).name) (fun i => (cx r i).pos)) (fun x => eqS x.1 nm) default
    rw [hl] at e
    rw [e] at hcall
    have e2 : firstIx r.enums.length (fun i => eqS ((hdsOf w q r.enums.length (fun i => (cx r i).name) (fun i => (cx r i).pos))[i]!).1 nm) = enumIx r nm := by
      unfold enumIx firstIx
      refine find_congr fun i hi => ?_
      rw [hds_get _ _ _ _ _ i (List.mem_range.1 hi)]
    rw [e2] at hcall
    exact hcall
/-- an enum's name among its names -/
theorem ixTok_calls (l : List Tok) (hl : l.length ≤ 100000) (a : Option Addr) (c : Nat) (nm : ByteArray) (T : Nat) (w : World) (hT : T < w.heap.size) (hc : w.cell? ⟨T, 1, none⟩ = some (.string nm)) (hrow : TokRow w a l) :
    Calls Try.prog 70 #[.slice a l.length c, .func (.func 72) #[] #[.pointer (some ⟨T, 0, none⟩)]] w fun e w' => e = .returned (.int .i64 (ixV (firstIx l.length fun k => eqS ((l[k]?).getD tok0).text nm))) ∧ Below w.heap.size w w' := by
  have eg : ∀ args w, (callFunc 72 args).run Try.prog w = .ok (.enter 72 args) w := enters_of Try.func72 (by kernel_rfl) rfl
  by_cases h0 : l.length = 0
  · have hi : (firstIx l.length fun k => eqS ((l[k]?).getD tok0).text nm) = none := by rw [h0]; rfl
    rw [hi, h0]
    exact ixTok_none a c _ w
  · obtain ⟨q, rfl, hr⟩ := hrow (by omega)
    have hq := ToksIn.lt hr (by omega)
    have hcall := AnyQ.slices_IndexFunc Try.ixTok 3 Try.isAgg41 Try.sizeOf41 tokL (fun _ => rfl) (fun x => eqS x.text nm) 72 _ eg q 0 l.length c l w (pred_valTok nm T w hT hc) (Nat.le_refl _) (by omega) hq (fun j hj i v hi => by
      rw [tok_get l j hj] at hi
      obtain ⟨h0, h1, h2⟩ := hr j hj
      rw [Nat.zero_add]
      match i, hi with
      | 0, hi => obtain rfl := Option.some.inj hi; exact h0
      | 1, hi => obtain rfl := Option.some.inj hi; exact h1
      | 2, hi => obtain rfl := Option.some.inj hi; exact h2
      | i + 3, hi => simp [tokL] at hi)
    rw [idxBy_ix] at hcall
    have e2 : firstIx l.length (fun i => eqS (l[i]!).text nm) = firstIx l.length fun k => eqS ((l[k]?).getD tok0).text nm := by
      unfold firstIx
      refine find_congr fun i hi => ?_
      rw [tok_get l i (List.mem_range.1 hi)]
    rw [e2] at hcall
    exact hcall

end Go.Proofs.Ytgoaiokpnifhfaa
