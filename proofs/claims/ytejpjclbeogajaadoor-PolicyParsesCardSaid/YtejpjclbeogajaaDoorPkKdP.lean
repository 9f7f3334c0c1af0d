/-
  Parts: KdP, BasicP, ShelfF, FindW, MskA, PfmaskNames.
-/
import Derived.Test.YtejpjclbeogajaaDoorPfKinds
import Derived.Test.YtejpjclbeogajaaDoorTokens
import Derived.Test.YtejpjclbeogajaaDoorIdl1
import Derived.Test.YtejpjclbeogajaaDoorIdlP
import Derived.Shelf.SlGeneric
import Derived.Shelf.SlicesQ.IndexFunc
import Derived.Ground.SlgfProg
import Derived.Test.YtejpjclbeogajaaDoorProg
import Derived.Test.YtejpjclbeogajaaDoorRegion
import Derived.Test.YtejpjclbeogajaaDoorPkMskM
import Derived.WalkArith

/-
  Rows that are read, as the printed texts have them: their addresses; tokens.
-/
namespace Go.Proofs.YtejpjclbeogajaaDoor
open Go.RowKit
open Go.Proofs.YtejpjclbeogajaaDoorP
open Go.Proofs.YtejpjclbeogajaaDoorW.PrintWords (Kd ReadsRow Reps OwnRow)
set_option linter.unusedVariables false
set_option linter.unusedSimpArgs false

theorem add_none (b o k : Nat) : Addr.add ⟨b, o, none⟩ k = ⟨b, o + k, none⟩ := by
  unfold Addr.add
  by_cases h : k = 0
  · rw [if_pos h, h, Nat.add_zero]
  · rw [if_neg h]
theorem cell_spot {w : World} {b o : Nat} {sp : Option Nat} {v : Value} (h : w.cell? ⟨b, o, sp⟩ = some v) : sp = none := by
  cases sp with
  | none => rfl
  | some s =>
    unfold World.cell? at h
    split at h
    · simp at h
    · cases h
/-- a row that is read lies at an address -/
theorem C_addr {α : Type} {d : Kd α} {w : World} {A : Option Addr} {n : Nat} {xs : List α} (h : Kd.C d w A n xs) (hn : 0 < n) (hs : 0 < d.sz) :
    ∃ b o, A = some ⟨b, o, none⟩ ∧ b < w.heap.size ∧ ∀ j p, xs[j]? = some p → ∃ c, c.length = d.sz ∧ d.K w p c ∧ ∀ i u, c[i]? = some u → w.cell? ⟨b, o + (j * d.sz + i), none⟩ = some u := by
  obtain ⟨h1, h2, h3⟩ := h
  obtain ⟨⟨b, o, sp⟩, rfl, hc⟩ := h3 hn
  have hx : ∃ p, xs[0]? = some p := by
    cases xs with
    | nil => simp at h1; omega
    | cons x xs => exact ⟨x, rfl⟩
  obtain ⟨p, hp⟩ := hx
  obtain ⟨c, hl, hk, hcell⟩ := hc 0 p hp
  have h0 : ∃ u, c[0]? = some u := by
    cases c with
    | nil => simp at hl; omega
    | cons u c => exact ⟨u, rfl⟩
  obtain ⟨u, hu⟩ := h0
  have e := hcell 0 u hu
  rw [Nat.zero_mul, Nat.add_zero] at e
  have e2 : w.cell? ⟨b, o, sp⟩ = some u := e
  obtain rfl := cell_spot e2
  refine ⟨b, o, rfl, World.block_lt_of_cell? w _ e2, fun j p hj => ?_⟩
  obtain ⟨c, hl, hk, hcell⟩ := hc j p hj
  refine ⟨c, hl, hk, fun i u hi => ?_⟩
  rw [← add_none]
  exact hcell i u hi
theorem C_mk {α : Type} {d : Kd α} {w : World} {A : Option Addr} {xs : List α} (hm : xs.length ≤ 9223372036854775807) (h : 0 < xs.length → ∃ b o, A = some ⟨b, o, none⟩ ∧ ∀ j p, xs[j]? = some p → ∃ c, d.K w p c ∧ ∀ i u, c[i]? = some u → w.cell? ⟨b, o + (j * d.sz + i), none⟩ = some u) : Kd.C d w A xs.length xs := by
  refine ⟨rfl, hm, fun h0 => ?_⟩
  obtain ⟨b, o, rfl, hc⟩ := h h0
  refine ⟨_, rfl, fun j p hj => ?_⟩
  obtain ⟨c, hk, hcell⟩ := hc j p hj
  refine ⟨c, d.K_len hk, hk, fun i u hi => ?_⟩
  rw [add_none]
  exact hcell i u hi

/-! ### tokens -/
def tT (t : Tok) : Pf.S103 := ⟨t.kind, t.text, (t.pos : Int)⟩
theorem tok_reps (w : World) (base : Nat) (ok : Nat → Prop) (l : List Tok) : Reps (Kd.M Pf.k103 w base ok) 3 (l.map tT) (tokCells l) := by
  refine ⟨by rw [tokCells_len, List.length_map], fun j p hj => ?_⟩
  rw [List.getElem?_map] at hj
  obtain ⟨t, ht, rfl⟩ := Option.map_eq_some_iff.1 hj
  have hseg : ((tokCells l).drop (j * 3)).take 3 = [.int .i64 t.kind, .string t.text, .int .i64 (t.pos : Int)] := by
    clear hj
    induction l generalizing j with
    | nil => simp at ht
    | cons a l ih =>
      cases j with
      | zero => obtain rfl := Option.some.inj ht; rfl
      | succ j =>
        rw [show (j + 1) * 3 = j * 3 + 3 by omega, show (tokCells (a :: l)).drop (j * 3 + 3) = (tokCells l).drop (j * 3) from rfl]
        exact ih j (by simpa using ht)
  rw [hseg]
  exact Pf.k103_mkM w base ok (tT t)
theorem toks_R {w : World} {base : Nat} {v : Value} {l : List Tok} (h : w.ownsRow base 103 3 v l.length (tokCells l)) : Kd.R Pf.k103 103 w base (fun _ => True) v (l.map tT) :=
  ⟨fun _ _ => trivial, tokCells l, by rw [List.length_map]; exact h, tok_reps _ _ _ _⟩
theorem toks_C {w : World} {base : Nat} {v : Value} {l : List Tok} (h : w.ownsRow base 103 3 v l.length (tokCells l)) : ∃ A c, v = .slice A (l.map tT).length c ∧ (l.map tT).length ≤ c ∧ Kd.C Pf.k103 w A (l.map tT).length (l.map tT) := Kd.R_reads (toks_R h)

end Go.Proofs.YtejpjclbeogajaaDoor

/-
  The first of so many; basic names.
-/
namespace Go.Proofs.YtejpjclbeogajaaDoor
open Go.RowKit
set_option linter.unusedVariables false
set_option linter.unusedSimpArgs false

/-! ### the first of so many -/
def firstIx (n : Nat) (p : Nat → Bool) : Option Nat := (List.range n).find? p
theorem firstIx_none {n : Nat} {p : Nat → Bool} : firstIx n p = none ↔ ∀ i, i < n → p i = false := by
  unfold firstIx
  rw [List.find?_eq_none]
  constructor
  · intro h i hi
    have := h i (List.mem_range.2 hi)
    simpa using this
  · intro h i hi
    rw [h i (List.mem_range.1 hi)]; simp
theorem firstIx_some {n : Nat} {p : Nat → Bool} {i : Nat} (hi : i < n) (hp : p i = true) (hb : ∀ k, k < i → p k = false) : firstIx n p = some i := by
  unfold firstIx
  rw [List.find?_eq_some_iff_getElem]
  exact ⟨hp, i, by simpa using hi, by simp, fun j hj => by simp [hb j hj]⟩
theorem firstIx_spec {n : Nat} {p : Nat → Bool} {i : Nat} (h : firstIx n p = some i) : i < n ∧ p i = true ∧ ∀ k, k < i → p k = false := by
  unfold firstIx at h
  rw [List.find?_eq_some_iff_getElem] at h
  obtain ⟨hp, j, hj, e, hb⟩ := h
  simp only [List.getElem_range] at e
  subst e
  rw [List.length_range] at hj
  refine ⟨hj, hp, fun k hk => ?_⟩
  have := hb k hk
  simpa using this
/-- the first fault of so many -/
def firstBad (n : Nat) (p : Nat → Option (Int × Nat)) : Option (Int × Nat) := (List.range n).findSome? p
theorem firstBad_none {n : Nat} {p : Nat → Option (Int × Nat)} : firstBad n p = none ↔ ∀ i, i < n → p i = none := by
  unfold firstBad
  rw [List.findSome?_eq_none_iff]
  exact ⟨fun h i hi => h i (List.mem_range.2 hi), fun h i hi => h i (List.mem_range.1 hi)⟩
theorem firstBad_some {p : Nat → Option (Int × Nat)} {i : Nat} {x : Int × Nat} : ∀ {n : Nat}, i < n → p i = some x → (∀ k, k < i → p k = none) → firstBad n p = some x := by
  intro n hi hp hb
  unfold firstBad
  induction n with
  | zero => omega
  | succ n ih =>
    rw [List.range_succ, List.findSome?_append]
    by_cases e : i = n
    · subst e
      have : (List.range i).findSome? p = none := List.findSome?_eq_none_iff.2 fun k hk => hb k (List.mem_range.1 hk)
      rw [this]; simp [hp]
    · rw [ih (by omega)]; rfl

/-! ### names -/
def basicL : List ByteArray := [⟨#[98, 111, 111, 108]⟩, ⟨#[105, 56]⟩, ⟨#[105, 49, 54]⟩, ⟨#[105, 51, 50]⟩, ⟨#[105, 54, 52]⟩, ⟨#[117, 56]⟩, ⟨#[117, 49, 54]⟩, ⟨#[117, 51, 50]⟩, ⟨#[117, 54, 52]⟩, ⟨#[]⟩, ⟨#[116, 101, 120, 116]⟩, ⟨#[100, 97, 116, 97]⟩]
def basicN (i : Nat) : ByteArray := (basicL[i]?).getD ⟨#[]⟩
/-- a basic name's kind; 0: it is none -/
def basicK (s : ByteArray) : Nat := if s.size = 0 then 0 else match firstIx 12 (fun i => eqS (basicN i) s) with | some i => i + 1 | none => 0
def takenB (used : List ByteArray) (s : ByteArray) : Bool := decide (basicK s ≠ 0) || used.any (fun t => eqS t s) || eqS s cList

end Go.Proofs.YtejpjclbeogajaaDoor

/-
  DERIVED: THE SHELF's CONTRACTS AT THIS DUMP, IN PLAIN WORDS (tools/lay-plain.mjs out of 'TrydShelfF.lean', which tools/lay-shelf.mjs wrote): THE SAME DECLARATIONS UNDER THE SAME NAMES: 'import', 'namespace', 'open', 'def', 'theorem' AND NOTHING ELSE: no command of the shelf's: FOR A HAND-IN. Each laying: the table of numbers ('.._ren') and one theorem, a field a fact of the dump's own or the kernel's comparison; each contract: ONE APPLICATION.
-/
namespace Go.Proofs
open Go.Shelf
def Tryd.ixRec_ren : Go.Shelf.Ren := ⟨fun | 6 => 97 | n => n, fun | 22 => 130 | 23 => 174 | 25 => 190 | 3 => 3 | 0 => 0 | 4 => 4 | n => n, fun | n => n⟩
theorem Tryd.ixRec : Go.Proofs.SlLaysH0.n6 Tryd.prog Tryd.ixRec_ren := {
  mixed := by kernel_rfl
  f6 := ⟨Tryd.f97.name, by decide, Tryd.func97.trans (congrArg some (by kernel_rfl))⟩
  t0 := Tryd.underlying0
  a0 := Tryd.isAgg0
  z0 := Tryd.sizeOf0
  v0 := Tryd.zeroValue0
  t3 := Tryd.underlying3
  a3 := Tryd.isAgg3
  z3 := Tryd.sizeOf3
  v3 := Tryd.zeroValue3
  t4 := Tryd.underlying4
  a4 := Tryd.isAgg4
  z4 := Tryd.sizeOf4
  v4 := Tryd.zeroValue4
  t22 := Tryd.underlying130
  a22 := Tryd.isAgg130
  z22 := Tryd.sizeOf130
  v22 := Tryd.zeroValue130
  t25 := Tryd.underlying190
  a25 := Tryd.isAgg190
  z25 := Tryd.sizeOf190
  v25 := Tryd.zeroValue190 }
def Tryd.ixCho_ren : Go.Shelf.Ren := ⟨fun | 6 => 130 | n => n, fun | 22 => 131 | 23 => 177 | 25 => 218 | 3 => 3 | 0 => 0 | 4 => 4 | n => n, fun | n => n⟩
theorem Tryd.ixCho : Go.Proofs.SlLaysH0.n6 Tryd.prog Tryd.ixCho_ren := {
  mixed := by kernel_rfl
  f6 := ⟨Tryd.f130.name, by decide, Tryd.func130.trans (congrArg some (by kernel_rfl))⟩
  t0 := Tryd.underlying0
  a0 := Tryd.isAgg0
  z0 := Tryd.sizeOf0
  v0 := Tryd.zeroValue0
  t3 := Tryd.underlying3
  a3 := Tryd.isAgg3
  z3 := Tryd.sizeOf3
  v3 := Tryd.zeroValue3
  t4 := Tryd.underlying4
  a4 := Tryd.isAgg4
  z4 := Tryd.sizeOf4
  v4 := Tryd.zeroValue4
  t22 := Tryd.underlying131
  a22 := Tryd.isAgg131
  z22 := Tryd.sizeOf131
  v22 := Tryd.zeroValue131
  t25 := Tryd.underlying218
  a25 := Tryd.isAgg218
  z25 := Tryd.sizeOf218
  v25 := Tryd.zeroValue218 }
def Tryd.ixTok_ren : Go.Shelf.Ren := ⟨fun | 6 => 151 | n => n, fun | 22 => 57 | 23 => 103 | 25 => 214 | 3 => 3 | 0 => 0 | 4 => 4 | n => n, fun | n => n⟩
theorem Tryd.ixTok : Go.Proofs.SlLaysH0.n6 Tryd.prog Tryd.ixTok_ren := {
  mixed := by kernel_rfl
  f6 := ⟨Tryd.f151.name, by decide, Tryd.func151.trans (congrArg some (by kernel_rfl))⟩
  t0 := Tryd.underlying0
  a0 := Tryd.isAgg0
  z0 := Tryd.sizeOf0
  v0 := Tryd.zeroValue0
  t3 := Tryd.underlying3
  a3 := Tryd.isAgg3
  z3 := Tryd.sizeOf3
  v3 := Tryd.zeroValue3
  t4 := Tryd.underlying4
  a4 := Tryd.isAgg4
  z4 := Tryd.sizeOf4
  v4 := Tryd.zeroValue4
  t22 := Tryd.underlying57
  a22 := Tryd.isAgg57
  z22 := Tryd.sizeOf57
  v22 := Tryd.zeroValue57
  t25 := Tryd.underlying214
  a25 := Tryd.isAgg214
  z25 := Tryd.sizeOf214
  v25 := Tryd.zeroValue214 }
def Tryd.cfTok_ren : Go.Shelf.Ren := ⟨fun | 8 => 126 | 6 => 151 | n => n, fun | 22 => 57 | 23 => 103 | 25 => 214 | 4 => 4 | 3 => 3 | 0 => 0 | n => n, fun | n => n⟩
theorem Tryd.cfTok : Go.Proofs.SlLaysH0.n8 Tryd.prog Tryd.cfTok_ren := {
  mixed := by kernel_rfl
  f6 := ⟨Tryd.f151.name, by decide, Tryd.func151.trans (congrArg some (by kernel_rfl))⟩
  f8 := ⟨Tryd.f126.name, by decide, Tryd.func126.trans (congrArg some (by kernel_rfl))⟩
  t0 := Tryd.underlying0
  a0 := Tryd.isAgg0
  z0 := Tryd.sizeOf0
  v0 := Tryd.zeroValue0
  t3 := Tryd.underlying3
  a3 := Tryd.isAgg3
  z3 := Tryd.sizeOf3
  v3 := Tryd.zeroValue3
  t4 := Tryd.underlying4
  a4 := Tryd.isAgg4
  z4 := Tryd.sizeOf4
  v4 := Tryd.zeroValue4
  t22 := Tryd.underlying57
  a22 := Tryd.isAgg57
  z22 := Tryd.sizeOf57
  v22 := Tryd.zeroValue57
  t25 := Tryd.underlying214
  a25 := Tryd.isAgg214
  z25 := Tryd.sizeOf214
  v25 := Tryd.zeroValue214 }
def Tryd.cfFld_ren : Go.Shelf.Ren := ⟨fun | 8 => 128 | 6 => 152 | n => n, fun | 22 => 172 | 23 => 186 | 25 => 216 | 4 => 4 | 3 => 3 | 0 => 0 | n => n, fun | n => n⟩
theorem Tryd.cfFld : Go.Proofs.SlLaysH0.n8 Tryd.prog Tryd.cfFld_ren := {
  mixed := by kernel_rfl
  f6 := ⟨Tryd.f152.name, by decide, Tryd.func152.trans (congrArg some (by kernel_rfl))⟩
  f8 := ⟨Tryd.f128.name, by decide, Tryd.func128.trans (congrArg some (by kernel_rfl))⟩
  t0 := Tryd.underlying0
  a0 := Tryd.isAgg0
  z0 := Tryd.sizeOf0
  v0 := Tryd.zeroValue0
  t3 := Tryd.underlying3
  a3 := Tryd.isAgg3
  z3 := Tryd.sizeOf3
  v3 := Tryd.zeroValue3
  t4 := Tryd.underlying4
  a4 := Tryd.isAgg4
  z4 := Tryd.sizeOf4
  v4 := Tryd.zeroValue4
  t22 := Tryd.underlying172
  a22 := Tryd.isAgg172
  z22 := Tryd.sizeOf172
  v22 := Tryd.zeroValue172
  t25 := Tryd.underlying216
  a25 := Tryd.isAgg216
  z25 := Tryd.sizeOf216
  v25 := Tryd.zeroValue216 }
def Tryd.ixAf_ren : Go.Shelf.Ren := ⟨fun | 6 => 115 | n => n, fun | 22 => 80 | 23 => 79 | 25 => 201 | 3 => 3 | 0 => 0 | 4 => 4 | n => n, fun | n => n⟩
theorem Tryd.ixAf : Go.Proofs.SlLaysH0.n6 Tryd.prog Tryd.ixAf_ren := {
  mixed := by kernel_rfl
  f6 := ⟨Tryd.f115.name, by decide, Tryd.func115.trans (congrArg some (by kernel_rfl))⟩
  t0 := Tryd.underlying0
  a0 := Tryd.isAgg0
  z0 := Tryd.sizeOf0
  v0 := Tryd.zeroValue0
  t3 := Tryd.underlying3
  a3 := Tryd.isAgg3
  z3 := Tryd.sizeOf3
  v3 := Tryd.zeroValue3
  t4 := Tryd.underlying4
  a4 := Tryd.isAgg4
  z4 := Tryd.sizeOf4
  v4 := Tryd.zeroValue4
  t22 := Tryd.underlying80
  a22 := Tryd.isAgg80
  z22 := Tryd.sizeOf80
  v22 := Tryd.zeroValue80
  t25 := Tryd.underlying201
  a25 := Tryd.isAgg201
  z25 := Tryd.sizeOf201
  v25 := Tryd.zeroValue201 }
end Go.Proofs

/-
  mask.Find: a struct's field of a name.
-/
namespace Go.Proofs.YtejpjclbeogajaaDoor
open Go.RowKit
open Go.Proofs.YtejpjclbeogajaaDoorP
open Go.Proofs.YtejpjclbeogajaaDoorW.PrintWords (Kd)
set_option linter.unusedVariables false
set_option linter.unusedSimpArgs false

theorem nameEq (a b : ByteArray) : (a.toList == b.toList) = eqS a b := by rw [eqS, ← Go.ByteArray.toList_eq, ← Go.ByteArray.toList_eq]
instance : Inhabited Pf.S79 := ⟨Pf.z79⟩
/-- where a field of that name stands -/
def findI (xs : List Pf.S79) (nm : ByteArray) : Option Nat := firstIx xs.length fun i => eqS (xs.getD i Pf.z79).f0 nm
/-- a place, as Go says it -/
def ixZ (o : Option Nat) : Int := match o with | some i => (i : Int) | none => -1
theorem findI_idx (xs : List Pf.S79) (nm : ByteArray) : Lib.idxBy (fun _ y => eqS y.f0 nm) (xs.take xs.length) default = ixZ (findI xs nm) := by
  have hg : ∀ i, i < xs.length → xs[i]! = xs.getD i Pf.z79 := fun i hi => by rw [getElem!_pos xs i hi, List.getD_eq_getElem?_getD, List.getElem?_eq_getElem hi]; rfl
  cases h : findI xs nm with
  | some i =>
    obtain ⟨h1, h2, h3⟩ := firstIx_spec h
    exact Lib.idxBy_hit (fun _ y => eqS y.f0 nm) xs xs.length i default h1 (Nat.le_refl _) (by show eqS (xs[i]!).f0 nm = true; rw [hg i h1]; exact h2) (fun k hk => by show eqS (xs[k]!).f0 nm = false; rw [hg k (by omega)]; exact h3 k hk)
  | none => exact Lib.idxBy_miss (fun _ y => eqS y.f0 nm) xs xs.length default (fun k hk => by show eqS (xs[k]!).f0 nm = false; rw [hg k hk]; exact firstIx_none.1 h k hk)

def fldSL (x : Pf.S79) : List Value := [.string x.f0, .int .u8 x.f1.f0, .int .i64 x.f1.f1, .int .i64 x.f1.f2, .int .u64 x.f2]
set_option maxRecDepth 100000 in
theorem pred_find (nm : ByteArray) (T : Nat) (w : World) (hT : T < w.heap.size) (hc : w.cell? ⟨T, 0, none⟩ = some (.string nm)) :
    PredBelow Tryd.prog 116 #[.pointer (some ⟨T, 0, none⟩)] (fun x => .agg (fldSL x).toArray) (fun x => eqS x.f0 nm) w := fun W x hb => by
  have hc' : W.cell? ⟨T, 0, none⟩ = some (.string nm) := (hb.cell (p := ⟨T, 0, none⟩) hT).trans hc
  have hTW : T < W.heap.size := Nat.lt_of_lt_of_le hT hb.size
  have hne : T ≠ W.heap.size := by omega
  have he := nameEq x.f0 nm
  show Calls Tryd.prog 116 #[.agg #[.string x.f0, .int .u8 x.f1.f0, .int .i64 x.f1.f1, .int .i64 x.f1.f2, .int .u64 x.f2], .pointer (some ⟨T, 0, none⟩)] W fun e w' => e = .returned (.bool (eqS x.f0 nm)) ∧ Below w.heap.size w w'
  rw [← he]
  clear he
  go_enter Tryd.func116, Tryd.ntmps116
  go_wp2
  all_goals (go_ret; exact ⟨by simp_all, hb.alloc hb.size _⟩)

set_option maxRecDepth 100000 in
theorem ixAf_none (a : Option Addr) (c : Nat) (v : Value) (w : World) :
    Calls Tryd.prog 115 #[.slice a 0 c, v] w fun e w' => e = .returned (.int .i64 (-1)) ∧ Below w.heap.size w w' := by
  go_enter Tryd.func115, Tryd.ntmps115
  go_wp2_with fail
  go_loopw [8] (fun v8 wr => v8 = .int .i64 0 ∧ wr = w) (fun _ _ => 0)
  case atStart => exact ⟨rfl, rfl⟩
  case round =>
    obtain ⟨rfl, rfl⟩ := hrel
    go_wp2_with fail
    go_ret
    exact ⟨rfl, Below.refl _ _⟩
theorem ixAf_calls (A : Option Addr) (c : Nat) (xs : List Pf.S79) (nm : ByteArray) (T : Nat) (w : World) (h : Kd.C Pf.k79 w A xs.length xs) (hT : T < w.heap.size) (hc : w.cell? ⟨T, 0, none⟩ = some (.string nm)) :
    Calls Tryd.prog 115 #[.slice A xs.length c, .func (.func 116) #[] #[.pointer (some ⟨T, 0, none⟩)]] w fun e w' => e = .returned (.int .i64 (ixZ (findI xs nm))) ∧ Below w.heap.size w w' := by
  by_cases h0 : xs.length = 0
  · obtain rfl : xs = [] := List.length_eq_zero_iff.1 h0
    exact ixAf_none A c _ w
  · have eg : ∀ args w, (callFunc 116 args).run Tryd.prog w = .ok (.enter 116 args) w := enters_of Tryd.func116 (by kernel_rfl) rfl
    have hm := h.2.1
    obtain ⟨b, o, rfl, hb, hcl⟩ := C_addr h (by omega) (by decide)
    have hcall := AnyQ.slices_IndexFunc Tryd.ixAf 5 Tryd.isAgg79 Tryd.sizeOf79 fldSL (fun _ => rfl) (fun x => eqS x.f0 nm) 116 _ eg b o xs.length c xs w (pred_find nm T w hT hc) (Nat.le_refl _) hm hb (fun j hj i v hi => by
      obtain ⟨cs, _, hk, hcell⟩ := hcl j _ (List.getElem?_eq_getElem hj)
      obtain rfl := Pf.k79_open hk
      rw [getElem!_pos xs j hj] at hi
      rw [Nat.add_assoc]
      exact hcell i v hi)
    rw [findI_idx] at hcall
    exact hcall

set_option maxHeartbeats 1000000 in
set_option maxRecDepth 100000 in
theorem find_calls (A0 : Option Addr) (c0 : Nat) (l0 : List Pf.S82) (A1 : Option Addr) (c1 : Nat) (l1 : List Pf.S85) (root : Int) (rec : Nat) (nm : ByteArray) (w : World) (h0 : Kd.C Pf.k82 w A0 l0.length l0) (hr : rec < l0.length) :
    Calls Tryd.prog 74 #[.agg #[.slice A0 l0.length c0, .slice A1 l1.length c1, .int .i64 root], .int .i64 (rec : Int), .string nm] w fun e w' => e = .returned (.tuple #[.int .i64 (ixZ (findI (l0.getD rec Pf.z82).f1 nm)), .bool (findI (l0.getD rec Pf.z82).f1 nm).isSome]) ∧ Below w.heap.size w w' := by
  have hm := h0.2.1
  obtain ⟨b, o, rfl, hb, hcl⟩ := C_addr h0 (by omega) (by decide)
  obtain ⟨cs, _, hk, hcell⟩ := hcl rec _ (List.getElem?_eq_getElem hr)
  have hg : l0.getD rec Pf.z82 = l0[rec] := by rw [List.getD_eq_getElem?_getD, List.getElem?_eq_getElem hr]; rfl
  rw [hg]
  obtain ⟨AF, cF, rfl, _, hF⟩ := Pf.k82_open hk
  have hf1 : w.cell? ⟨b, o + rec * 2 + 1, none⟩ = some (.slice AF (l0[rec]).f1.length cF) := by
    have := hcell 1 _ rfl
    rwa [← Nat.add_assoc] at this
  obtain ⟨xs, hxs⟩ : ∃ xs, xs = (l0[rec]).f1 := ⟨_, rfl⟩
  rw [← hxs] at hf1 hF ⊢
  obtain ⟨W, hW⟩ : ∃ W, W = (w.alloc (Obj.cells #[.slice (some ⟨b, o, none⟩) l0.length c0, .slice A1 l1.length c1, .int .i64 root] 32)).alloc (Obj.cells #[.string nm] 9) := ⟨_, rfl⟩
  have hbW : Below w.heap.size w W := by rw [hW]; exact (below1 _ _).alloc (by simp) _
  have b1 : W.heap[w.heap.size]? = some (.cells #[.slice (some ⟨b, o, none⟩) l0.length c0, .slice A1 l1.length c1, .int .i64 root] 32 (0, 0)) := by rw [hW]; exact blk_alloc (blk_new _ _) _
  have b2 : W.heap[w.heap.size + 1]? = some (.cells #[.string nm] 9 (0, 0)) := by
    rw [hW]
    have := blk_new (w.alloc (Obj.cells #[.slice (some ⟨b, o, none⟩) l0.length c0, .slice A1 l1.length c1, .int .i64 root] 32)) (Obj.cells #[.string nm] 9)
    rw [World.size_alloc] at this
    exact this
  have s0 : W.cell? ⟨w.heap.size, 0, none⟩ = some (.slice (some ⟨b, o, none⟩) l0.length c0) := by rw [blk_cell b1]; rfl
  have n0 : W.cell? ⟨w.heap.size + 1, 0, none⟩ = some (.string nm) := by rw [blk_cell b2]; rfl
  have f1 : W.cell? ⟨b, o + rec * 2 + 1, none⟩ = some (.slice AF xs.length cF) := cell_kept hf1 hbW
  have l1' := blk_lt b1
  have l2' := blk_lt b2
  have hbl : b < W.heap.size := Nat.lt_of_lt_of_le hb hbW.size
  have hcall := ixAf_calls AF cF xs nm (w.heap.size + 1) W (Kd.C_below hF hbW) l2' n0
  have HC := Lib.hid hcall
  have HBW := Lib.hid hbW
  have hrI : (rec : Int) < (l0.length : Int) := by omega
  have hmI : (l0.length : Int) ≤ 9223372036854775807 := by omega
  obtain ⟨S, hS⟩ : ∃ S, S = w.heap.size := ⟨_, rfl⟩
  go_enter Tryd.func74, Tryd.ntmps74
  go_upto_region 1 with (fail)
  rw [← hW]
  rw [← hS] at s0 n0 l1' l2' HC ⊢
  clear hW hS b1 b2 hcall hbW hf1 hF hcl hcell hk h0 hxs hg hb
  go_wp2_with fail
  refine HC.out.mono ?_
  rintro e w2 ⟨rfl, hB2⟩
  have HB := Lib.hid (HBW.out.trans (hB2.mono HBW.out.size))
  clear hB2 HC
  cases hfi : findI xs nm with
  | none =>
    rw [show ixZ none = -1 from rfl]
    go_wp2_with fail
    refine bodyPost_ret (v := .tuple #[.int .i64 (-1), .bool false]) (by simp [results, Tryd.results74, go_sem, *]) rfl ⟨by rw [hfi]; rfl, HB.out⟩
  | some i =>
    have hi0 : decide ((0 : Int) ≤ (i : Int)) = true := decide_eq_true (by omega)
    rw [show ixZ (some i) = (i : Int) from rfl]
    go_wp2_with fail
    refine bodyPost_ret (v := .tuple #[.int .i64 (i : Int), .bool true]) (by simp [results, Tryd.results74, go_sem, *]) rfl ⟨by rw [hfi]; rfl, HB.out⟩

end Go.Proofs.YtejpjclbeogajaaDoor

/-
  mask.Empty, (*Mask).Add: a path of names that is added.
-/
namespace Go.Proofs.YtejpjclbeogajaaDoor
open Go.RowKit Go.Maps
open Go.Proofs.YtejpjclbeogajaaDoorP
open Go.Proofs.YtejpjclbeogajaaDoorW.PrintWords (Kd)
set_option linter.unusedVariables false
set_option linter.unusedSimpArgs false

set_option maxHeartbeats 1000000 in
set_option maxRecDepth 100000 in
theorem empty_exact (w : World) : Calls Tryd.prog 33 #[] w fun e w' => e = .returned (.pointer (some ⟨w.heap.size + 1, 0, none⟩)) ∧ w' = (w.alloc (.map #[] 0)).alloc (.cells #[.bool false, .map (some w.heap.size)] maskT) := by
  have hmm := @run_makeMap Tryd.prog
  go_enter Tryd.func33, Tryd.ntmps33
  go_wp2_with fail
  go_ret
  exact ⟨rfl, rfl⟩
theorem empty_msk (w : World) : Msk ((w.alloc (.map #[] 0)).alloc (.cells #[.bool false, .map (some w.heap.size)] maskT)) 0 (newN (w.heap.size + 1) w.heap.size) [] := by
  refine Msk.fresh ?_ ?_
  · have := blk_new (w.alloc (.map #[] 0)) (.cells #[.bool false, .map (some w.heap.size)] maskT)
    rw [World.size_alloc] at this
    exact this
  · exact (KidsAt.made w).kept (blk_alloc (blk_new w (.map #[] 0)) _ |>.trans (blk_new w (.map #[] 0)).symm)
theorem empty_calls (w : World) : Calls Tryd.prog 33 #[] w fun e w' => ∃ b m, e = .returned (ptrV (some b)) ∧ w.heap.size ≤ b ∧ w.heap.size ≤ m ∧ Below w.heap.size w w' ∧ Msk w' 0 (newN b m) [] := by
  refine (empty_exact w).mono ?_
  rintro e w' ⟨rfl, rfl⟩
  exact ⟨w.heap.size + 1, w.heap.size, rfl, by omega, by omega, (below1 _ _).alloc (by simp) _, empty_msk w⟩

/-! ### ways by names -/
abbrev SRec := Pf.S82
abbrev SFld := Pf.S79
abbrev SCho := Pf.S85
def recAt (l0 : List SRec) (rec : Nat) : SRec := l0.getD rec Pf.z82
def fldAt (xs : List SFld) (i : Nat) : SFld := xs.getD i Pf.z79
/-- a struct's field leads to a struct that there is -/
def SchW (l0 : List SRec) : Prop := ∀ rec, rec < l0.length → ∀ i, i < (recAt l0 rec).f1.length → (fldAt (recAt l0 rec).f1 i).f1.f0 = 13 → 0 ≤ (fldAt (recAt l0 rec).f1 i).f1.f1 ∧ (fldAt (recAt l0 rec).f1 i).f1.f1 < (l0.length : Int)
/-- a path of names, as fields -/
def wayI (l0 : List SRec) : List ByteArray → Nat → Option (List Int)
  | [], _ => none
  | nm :: ns, rec => match findI (recAt l0 rec).f1 nm with
    | none => none
    | some i => if ns.length = 0 then some [(i : Int)] else if (fldAt (recAt l0 rec).f1 i).f1.f0 = 13 then (wayI l0 ns (fldAt (recAt l0 rec).f1 i).f1.f1.toNat).map (fun r => (i : Int) :: r) else none

theorem newN_some {b m : Nat} {q : List Int} {y : Nat × Nat} (h : newN b m q = some y) : y = (b, m) := by
  unfold newN at h
  split at h
  · cases h; rfl
  · cases h

structure AddPost (w : World) (n : Nat) (N : NMap) (W : List (List Int)) (o : Option (List Int)) (e : Ending) (w' : World) : Prop where
  no : o = none → e = .returned (.bool false) ∧ Below w.heap.size w w'
  yes : ∀ r, o = some r → e = .returned (.bool true) ∧ ∃ N', Msk w' (n + 1) N' (W ++ [r]) ∧ N' [] = N [] ∧ (∀ p y, N' p = some y → N p = some y ∨ (w.heap.size ≤ y.1 ∧ w.heap.size ≤ y.2)) ∧ Turn w w' (InMsk N)
theorem AddPost.false {w w' : World} {n : Nat} {N : NMap} {W : List (List Int)} {o : Option (List Int)} (h : o = none) (hb : Below w.heap.size w w') : AddPost w n N W o (.returned (.bool false)) w' :=
  ⟨fun _ => ⟨rfl, hb⟩, fun r hr => by rw [h] at hr; cases hr⟩

/-- rows of names: the rest of them -/
theorem strs_drop {w : World} {b o : Nat} {nm : ByteArray} {ns : List ByteArray} (h : Kd.C Kd.string w (some ⟨b, o, none⟩) (nm :: ns).length (nm :: ns)) : Kd.C Kd.string w (some ⟨b, o + 1, none⟩) ns.length ns := by
  have hm := h.2.1
  obtain ⟨b', o', e, _, hc⟩ := C_addr h (by simp) (by decide)
  cases e
  refine C_mk (by simp only [List.length_cons] at hm; omega) fun h0 => ⟨b, o + 1, rfl, fun j p hj => ?_⟩
  obtain ⟨c, _, hk, hcell⟩ := hc (j + 1) p (by simpa using hj)
  refine ⟨c, hk, fun i u hi => ?_⟩
  have := hcell i u hi
  rwa [show o + ((j + 1) * Kd.string.sz + i) = o + 1 + (j * Kd.string.sz + i) by rw [Nat.add_mul]; show o + (j * Kd.string.sz + 1 * 1 + i) = _; omega] at this

/-- a callee that needs to know that it comes behind a world -/
theorem quietLate {P : Program} {f : FuncId} {args : Array Value} {w : World} {X : BelowOf w} {v : Value}
    (h : ∀ W', Below w.heap.size w W' → Calls P f args W' fun e w' => e = .returned v ∧ Below W'.heap.size W' w') : Calls P f args X.val fun e w'' => e = .returned v ∧ ∃ Y : BelowOf w, w'' = Y.val := quietB (h X.val X.ok)
set_option maxHeartbeats 4000000 in
set_option maxRecDepth 100000 in
theorem add_calls (l0 : List SRec) (l1 : List SCho) (A0 A1 : Option Addr) (c0 c1 : Nat) (root : Int) (hwf : SchW l0) (names : List ByteArray) : ∀ (rec : Nat) (An : Option Addr) (cn : Nat) (w : World) (n : Nat) (N : NMap) (W : List (List Int)) (b m : Nat),
    rec < l0.length → Kd.C Pf.k82 w A0 l0.length l0 → Kd.C Kd.string w An names.length names → names.length ≤ cn → n < maxLen → Msk w n N W → N [] = some (b, m) →
    Calls Tryd.prog 35 #[.pointer (some ⟨b, 0, none⟩), .agg #[.slice A0 l0.length c0, .slice A1 l1.length c1, .int .i64 root], .int .i64 (rec : Int), .slice An names.length cn] w (AddPost w n N W (wayI l0 names rec)) := by
  induction names with
  | nil =>
    intro rec An cn w n N W b m hrec h0 hnm hcn hn hM hr
    go_enter Tryd.func35, Tryd.ntmps35
    go_wp2_with fail
    go_ret
    exact AddPost.false rfl (by (repeat' (first | (with_reducible exact Below.refl _ _) | (with_reducible assumption) | (with_reducible refine Below.alloc ?_ ?_ _) | (with_reducible refine Below.drew ?_) | (with_reducible refine Below.setCell ?_ ?_ _) | (with_reducible refine Below.trans ?_ (Below.mono (by assumption) ?_)) | go_size)))
  | cons nm ns ih =>
    intro rec An cn w n N W b m hrec h0 hnm hcn hn hM hr
    have hnb := hnm.2.1
    obtain ⟨qn, on, rfl, hqn, hcn1⟩ := C_addr hnm (by simp) (by decide)
    have hnm0 : w.cell? ⟨qn, on, none⟩ = some (.string nm) := by
      obtain ⟨c, _, hk, hcell⟩ := hcn1 0 nm rfl
      have := hcell 0 _ (by rw [hk]; rfl)
      simpa using this
    have hdrop := strs_drop hnm
    have hmx := h0.2.1
    obtain ⟨q0, o0, rfl, hq0, hrow⟩ := C_addr h0 (by omega) (by decide)
    obtain ⟨cs, hz1, hk, hcell⟩ := hrow rec _ (List.getElem?_eq_getElem hrec)
    obtain ⟨AF, cF, rfl, hz2, hF⟩ := Pf.k82_open hk
    have hf1 : w.cell? ⟨q0, o0 + rec * 2 + 1, none⟩ = some (.slice AF (l0[rec]).f1.length cF) := by
      have := hcell 1 _ rfl
      rwa [← Nat.add_assoc] at this
    have hrx : recAt l0 rec = l0[rec] := by unfold recAt; rw [List.getD_eq_getElem?_getD, List.getElem?_eq_getElem hrec]; rfl
    have hfind := fun (X : World) (hX : Below w.heap.size w X) => find_calls (some ⟨q0, o0, none⟩) c0 l0 A1 c1 l1 root rec nm X (Kd.C_below h0 hX) hrec
    rw [show l0.getD rec Pf.z82 = recAt l0 rec from rfl, hrx] at hfind
    obtain ⟨xs, hxs⟩ : ∃ xs, xs = (l0[rec]).f1 := ⟨_, rfl⟩
    rw [← hxs] at hf1 hF hfind
    have hway : (findI xs nm = none → wayI l0 (nm :: ns) rec = none) ∧ (∀ i, findI xs nm = some i → wayI l0 (nm :: ns) rec = if ns.length = 0 then some [(i : Int)] else if (fldAt xs i).f1.f0 = 13 then (wayI l0 ns (fldAt xs i).f1.f1.toNat).map (fun r => (i : Int) :: r) else none) := by
      rw [wayI, hrx, ← hxs]
      exact ⟨fun h => by rw [h], fun i h => by rw [h]⟩
    have hsw := fun i (hi : i < xs.length) => by have := hwf rec hrec i; rw [hrx, ← hxs] at this; exact this hi
    obtain ⟨w1, hw1⟩ : ∃ w1, w1 = w.alloc (Obj.cells #[.slice (some ⟨q0, o0, none⟩) l0.length c0, .slice A1 l1.length c1, .int .i64 root] 32) := ⟨_, rfl⟩
    have hb1 : Below w.heap.size w w1 := by rw [hw1]; exact below1 _ _
    have bS : w1.heap[w.heap.size]? = some (.cells #[.slice (some ⟨q0, o0, none⟩) l0.length c0, .slice A1 l1.length c1, .int .i64 root] 32 (0, 0)) := by rw [hw1]; exact blk_new _ _
    have hn1 : w1.cell? ⟨qn, on, none⟩ = some (.string nm) := cell_kept hnm0 hb1
    have lqn : qn < w1.heap.size := Nat.lt_of_lt_of_le hqn hb1.size
    obtain ⟨S, hS⟩ : ∃ S, S = w.heap.size := ⟨_, rfl⟩
    rw [← hS] at bS
    have HSL := Lib.hid (show w.heap.size ≤ S by omega)
    have HN := Lib.hid (And.intro hn1 lqn)
    have HB1 := Lib.hid hb1
    have HBS := Lib.hid bS
    have HFD := Lib.hid hfind
    have HF := Lib.hid hF
    have HF1 := Lib.hid (And.intro hf1 hq0)
    have HWAY := Lib.hid hway
    have HSW := Lib.hid hsw
    have HDR := Lib.hid hdrop
    have HM := Lib.hid hM
    have HR := Lib.hid hr
    have HC0 := Lib.hid h0
    have HIH := Lib.hid ih
    obtain ⟨L, hL⟩ : ∃ L, L = (nm :: ns).length := ⟨_, rfl⟩
    rw [← hL] at hcn hnb ⊢
    have hL1 : L = ns.length + 1 := hL
    have hnI : (L : Int) ≤ 9223372036854775807 := by omega
    have hcnI : (L : Int) ≤ (cn : Int) := by omega
    have hLI : (1 : Int) ≤ (L : Int) := by omega
    have HL := Lib.hid hL1
    clear hL hL1
    have hrI : (rec : Int) < (l0.length : Int) := by omega
    have hmI : (l0.length : Int) ≤ 9223372036854775807 := by omega
    have s0 : w1.cell? ⟨S, 0, none⟩ = some (.slice (some ⟨q0, o0, none⟩) l0.length c0) := by rw [blk_cell HBS.out]; rfl
    have s1 : w1.cell? ⟨S, 1, none⟩ = some (.slice A1 l1.length c1) := by rw [blk_cell HBS.out]; rfl
    have s2 : w1.cell? ⟨S, 2, none⟩ = some (.int .i64 root) := by rw [blk_cell HBS.out]; rfl
    have lS := blk_lt HBS.out
    clear hb1 bS hfind hF hf1 hway hsw hdrop hM hr h0 hnm hcn1 hnm0 hrow hcell hk hrx hxs hwf hnb hmx ih hn1 lqn hz1 hz2
    go_enter Tryd.func35, Tryd.ntmps35
    go_upto_region 1 with (fail)
    rw [← hw1, ← hS]
    clear hw1 hS
    have HNN := Lib.hid hn
    have HREC := Lib.hid hrec
    clear hcn hn hrec
    have hn1 := HN.out.1
    have lqn := HN.out.2
    go_upto_region 3 with (fail)
    have hfd1 := fun (X : World) (hX : Below w1.heap.size w1 X) => HFD.out X (HB1.out.trans (hX.mono HB1.out.size))
    cases hfi : findI xs nm with
    | none =>
      rw [hfi] at hfd1
      have HO := Lib.hid (HWAY.out.1 hfi)
      clear hfi
      rw [show ixZ none = -1 from rfl, show (none : Option Nat).isSome = false from rfl] at hfd1
      (have hX := BelowOf.cell w1; refine wp_region_below_lit (by kernel_rfl) (by kernel_rfl) ?_; (repeat (go_big_quiet_step (exact quietLate hfd1))); refine wpQuiet_nil ?_); intro wB hw'; obtain ⟨⟨wB', hB'⟩, hw''⟩ := hw'; have hB : Below (World.heap w1).size w1 wB := (by rw [hw'']; exact hB'); clear hw'' hB' hX; clear wB'; have hzB := hB.size; obtain ⟨hcB, hfB⟩ := bcell hB
      have HB2 := Lib.hid (HB1.out.trans (hB.mono HB1.out.size))
      clear hB hcB hfB hzB hfd1
      go_wp2_with fail
      go_ret
      exact AddPost.false HO.out HB2.out
    | some i =>
      have hix : i < xs.length := (firstIx_spec hfi).1
      rw [hfi] at hfd1
      have HO := Lib.hid (HWAY.out.2 i hfi)
      clear hfi
      rw [show ixZ (some i) = (i : Int) from rfl, show (some i : Option Nat).isSome = true from rfl] at hfd1
      (have hX := BelowOf.cell w1; refine wp_region_below_lit (by kernel_rfl) (by kernel_rfl) ?_; (repeat (go_big_quiet_step (exact quietLate hfd1))); refine wpQuiet_nil ?_); intro wB hw'; obtain ⟨⟨wB', hB'⟩, hw''⟩ := hw'; have hB : Below (World.heap w1).size w1 wB := (by rw [hw'']; exact hB'); clear hw'' hB' hX; clear wB'; have hzB := hB.size; obtain ⟨hcB, hfB⟩ := bcell hB
      have HB2 := Lib.hid (HB1.out.trans (hB.mono HB1.out.size))
      have HBB := Lib.hid hB
      clear hB hcB hfB hfd1 s0 s1 s2 lS hn1 lqn
      obtain ⟨bF, oF, hAF, hbF, hcF⟩ := C_addr HF.out (by omega) (by decide)
      obtain ⟨cs, hz1, hk, hcell⟩ := hcF i _ (List.getElem?_eq_getElem hix)
      obtain rfl := Pf.k79_open hk
      rw [show Pf.k79.sz = 5 from rfl] at hcell
      have hfx : fldAt xs i = xs[i] := by unfold fldAt; rw [List.getD_eq_getElem?_getD, List.getElem?_eq_getElem hix]; rfl
      obtain ⟨f, hf⟩ : ∃ f, f = xs[i] := ⟨_, rfl⟩
      rw [← hf] at hcell hfx
      have HFX := Lib.hid hfx
      have hO := HO.out
      rw [hfx] at hO
      have HO2 := Lib.hid hO
      have hsw2 := HSW.out i hix
      rw [hfx] at hsw2
      have HSW2 := Lib.hid hsw2
      have g0 : wB.cell? ⟨bF, oF + i * 5, none⟩ = some (.string f.f0) := cell_kept (by simpa using hcell 0 _ rfl) HB2.out
      have g1 : wB.cell? ⟨bF, oF + i * 5 + 1, none⟩ = some (.int .u8 f.f1.f0) := cell_kept (by simpa [Nat.add_assoc] using hcell 1 _ rfl) HB2.out
      have g2 : wB.cell? ⟨bF, oF + i * 5 + 2, none⟩ = some (.int .i64 f.f1.f1) := cell_kept (by simpa [Nat.add_assoc] using hcell 2 _ rfl) HB2.out
      have g3 : wB.cell? ⟨bF, oF + i * 5 + 3, none⟩ = some (.int .i64 f.f1.f2) := cell_kept (by simpa [Nat.add_assoc] using hcell 3 _ rfl) HB2.out
      have g4 : wB.cell? ⟨bF, oF + i * 5 + 4, none⟩ = some (.int .u64 f.f2) := cell_kept (by simpa [Nat.add_assoc] using hcell 4 _ rfl) HB2.out
      have hf1 := cell_kept HF1.out.1 HB2.out
      rw [hAF] at hf1
      have lbF : bF < wB.heap.size := Nat.lt_of_lt_of_le hbF HB2.out.size
      have lq0 : q0 < wB.heap.size := Nat.lt_of_lt_of_le HF1.out.2 HB2.out.size
      have hixI : (i : Int) < (xs.length : Int) := by omega
      have hxm := HF.out.2.1
      have hxmI : (xs.length : Int) ≤ 9223372036854775807 := by omega
      have bSB := blk_below HBS.out HBB.out (blk_lt HBS.out)
      have HBSB := Lib.hid bSB
      have s0 : wB.cell? ⟨S, 0, none⟩ = some (.slice (some ⟨q0, o0, none⟩) l0.length c0) := by rw [blk_cell HBSB.out]; rfl
      have s1 : wB.cell? ⟨S, 1, none⟩ = some (.slice A1 l1.length c1) := by rw [blk_cell HBSB.out]; rfl
      have s2 : wB.cell? ⟨S, 2, none⟩ = some (.int .i64 root) := by rw [blk_cell HBSB.out]; rfl
      have lS := blk_lt HBSB.out
      have HIX := Lib.hid hix
      clear hcell hk hz1 hf hfx hO hsw2 hcF hbF hxm bSB hix
      go_upto_region 7 with (fail)
      obtain ⟨w3, hw3⟩ : ∃ w3, w3 = wB.alloc (Obj.cells #[.string f.f0, .int .u8 f.f1.f0, .int .i64 f.f1.f1, .int .i64 f.f1.f2, .int .u64 f.f2] 79) := ⟨_, rfl⟩
      have hb3 : Below wB.heap.size wB w3 := by rw [hw3]; exact below1 _ _
      have bF3 : w3.heap[wB.heap.size]? = some (.cells #[.string f.f0, .int .u8 f.f1.f0, .int .i64 f.f1.f1, .int .i64 f.f1.f2, .int .u64 f.f2] 79 (0, 0)) := by rw [hw3]; exact blk_new _ _
      have HB3 := Lib.hid (HB2.out.trans (hb3.mono HB2.out.size))
      have HBS3 := Lib.hid (blk_below HBSB.out hb3 (blk_lt HBSB.out))
      have HM3 := Lib.hid (HM.out.below HB3.out)
      rw [← hw3]
      obtain ⟨FB, hFB⟩ : ∃ FB, FB = wB.heap.size := ⟨_, rfl⟩
      rw [← hFB] at bF3 ⊢
      have HBF := Lib.hid bF3
      have HFS := Lib.hid (show w.heap.size ≤ FB by have := HB2.out.size; omega)
      have f1 : w3.cell? ⟨FB, 1, none⟩ = some (.int .u8 f.f1.f0) := by rw [blk_cell bF3]; rfl
      have f2 : w3.cell? ⟨FB, 2, none⟩ = some (.int .i64 f.f1.f1) := by rw [blk_cell bF3]; rfl
      have lF := blk_lt bF3
      have hwfi : (Lit.int .i64 (i : Int)).wf = true := by
        have h1 := HF.out.2.1
        have h2 := HIX.out
        have h3 : (-9223372036854775808 : Int) ≤ (i : Int) ∧ (i : Int) ≤ 9223372036854775807 := by omega
        simp only [Lit.wf, Bool.and_eq_true, decide_eq_true_eq]
        exact h3
      have HWFI := Lib.hid hwfi
      have bM := HM3.out.cell [] b m HR.out
      have m1 : w3.cell? ⟨b, 1, none⟩ = some (.map (some m)) := by rw [blk_cell bM]; rfl
      have lb := blk_lt bM
      have hlk : (Instr.lookup 154 (.map (some m)) (.int .i64 (i : Int)) false).run Tryd.prog w3 = .ok (ptrV ((N [(i : Int)]).map Prod.fst)) w3 := (HM3.out.kids [] b m HR.out).look hwfi
      have lm := (HM3.out.kids [] b m HR.out).lt
      clear g0 g1 g2 g3 g4 hf1 lbF lq0 hixI hxmI s0 s1 s2 lS hAF hw3 hFB hb3 bF3 hwfi bM hzB hrI hmI
      by_cases hL1 : L = 1
      · subst hL1
        have hns : ns.length = 0 := by have := HL.out; omega
        have hO := HO2.out
        rw [if_pos hns] at hO
        have HO3 := Lib.hid hO
        clear hO hns
        cases hki : N [(i : Int)] with
        | none =>
          rw [hki] at hlk
          rw [show ptrV (Option.map Prod.fst (none : Option (Nat × Nat))) = .pointer none from rfl] at hlk
          go_wp2_with fail
          refine (empty_calls w3).mono ?_
          rintro e w4 ⟨kb, km, rfl, hkb1, hkb2, hB4, hM4⟩
          rw [show ptrV (some kb) = .pointer (some ⟨kb, 0, none⟩) from rfl]
          have HB4 := Lib.hid (HB3.out.trans (hB4.mono HB3.out.size))
          have HM4 := Lib.hid hM4
          have HKB := Lib.hid (And.intro hkb1 hkb2)
          have bK := hM4.cell [] kb km rfl
          have kf := blk_frozen bK 0
          have k0 : w4.cell? ⟨kb, 0, none⟩ = some (.bool false) := by rw [blk_cell bK]; rfl
          have lk := blk_lt bK
          clear hB4 hM4 hkb1 hkb2 bK f1 f2 lF m1 lb hlk lm
          go_upto_region 16 with (fail)
          have hT5 : Turn w (w4.setCell ⟨kb, 0, none⟩ (.bool true)) (InKid N (i : Int)) := Turn.of_below (HB4.out.setCell (by have := HB3.out.size; have := HKB.out.1; show w.heap.size ≤ kb; omega) _) _
          have hM5 := (HM4.out.whole (b := kb) (m := km) rfl).mono (Nat.zero_le (n + 1))
          generalize w4.setCell ⟨kb, 0, none⟩ (.bool true) = w5 at *
          have HM5 := Lib.hid hM5
          have HT5 := Lib.hid hT5
          have hRA := HM.out.rootAt hT5 HR.out
          obtain ⟨Dm, hDm, hDk⟩ := hRA.2.out
          have bM := hRA.1
          have m1 : w5.cell? ⟨b, 1, none⟩ = some (.map (some m)) := by rw [blk_cell bM]; rfl
          have lb := blk_lt bM
          have HDM := Lib.hid hDm
          have HDK := Lib.hid hDk
          clear hM5 hT5 hRA bM hDm hDk
          go_wp2_with (at_mapUpdate; refine wpList_mapUpdate_own _ rfl _ _ _ 154 rfl 3 68 intKeyed Tryd.underlying154 _ m n _ rfl HDM.out HNN.out _ _ _ rfl rfl (keyOfI HWFI.out) _ [] (ptrR_mk (some kb)) ?_)
          intro w6 hown hg6
          have HKP := Lib.hid (KidsAt.put HWFI.out HDM.out HDK.out hown)
          have HG6 := Lib.hid hg6
          clear hown hg6
          go_wp2_with fail
          go_ret
          refine ⟨fun h => (by rw [HO3.out] at h; cases h), fun r hr => ?_⟩
          rw [HO3.out] at hr
          cases hr
          exact ⟨rfl, _, add_end (kid := newN kb km) HM.out HR.out (by rw [HM.out.under_none hki]; exact HM5.out) (by first | exact hk5 | exact hki | rfl) HWFI.out HT5.out (fun q y hq => .inr (by have h2 := HB3.out.size; have h3 := HKB.out; unfold newN at hq; split at hq <;> cases hq; exact ⟨by omega, by omega⟩)) HG6.out HKP.out⟩
        | some x =>
          obtain ⟨kb, km⟩ := x
          rw [hki] at hlk
          rw [show ptrV (Option.map Prod.fst (some (kb, km))) = .pointer (some ⟨kb, 0, none⟩) from rfl] at hlk
          have hMk := HM3.out.kid (i := (i : Int)) (by rw [hki]; rfl)
          have bK := hMk.cell [] kb km hki
          have kf := blk_frozen bK 0
          have k0 := (blk_cell bK 0).trans rfl
          have lk := blk_lt bK
          have HMK := Lib.hid hMk
          clear hMk bK
          go_upto_region 16 with (fail)
          have hT5 : Turn w (w3.setCell ⟨kb, 0, none⟩ (.bool true)) (InKid N (i : Int)) := (Turn.of_below HB3.out _).trans (Turn.set (S := InKid N (i : Int)) ⟨[], _, hki, .inl rfl⟩) (fun _ _ h => h)
          have hM5 := (HMK.out.whole hki).mono (Nat.le_succ n)
          clear f1 f2 lF m1 lb hlk lm kf k0 lk
          generalize w3.setCell ⟨kb, 0, none⟩ (.bool true) = w5 at *
          have HM5 := Lib.hid hM5
          have HT5 := Lib.hid hT5
          have hRA := HM.out.rootAt hT5 HR.out
          obtain ⟨Dm, hDm, hDk⟩ := hRA.2.out
          have bM := hRA.1
          have m1 : w5.cell? ⟨b, 1, none⟩ = some (.map (some m)) := by rw [blk_cell bM]; rfl
          have lb := blk_lt bM
          have HDM := Lib.hid hDm
          have HDK := Lib.hid hDk
          clear hM5 hT5 hRA bM hDm hDk
          go_wp2_with (at_mapUpdate; refine wpList_mapUpdate_own _ rfl _ _ _ 154 rfl 3 68 intKeyed Tryd.underlying154 _ m n _ rfl HDM.out HNN.out _ _ _ rfl rfl (keyOfI HWFI.out) _ [] (ptrR_mk (some kb)) ?_)
          intro w6 hown hg6
          have HKP := Lib.hid (KidsAt.put HWFI.out HDM.out HDK.out hown)
          have HG6 := Lib.hid hg6
          clear hown hg6
          go_wp2_with fail
          go_ret
          refine ⟨fun h => (by rw [HO3.out] at h; cases h), fun r hr => ?_⟩
          rw [HO3.out] at hr
          cases hr
          exact ⟨rfl, _, add_end (kid := kidN N (i : Int)) HM.out HR.out (HM5.out) (by first | exact hk5 | exact hki | rfl) HWFI.out HT5.out (fun q y hq => .inl hq) HG6.out HKP.out⟩
      · have hd : decide ((1 : Int) < (L : Int)) = true := decide_eq_true (by omega)
        have hns : ¬ ns.length = 0 := by have := HL.out; omega
        by_cases hk13 : f.f1.f0 = 13
        · have hkb : (f.f1.f0 != 13) = false := by rw [hk13]; rfl
          have hO := HO2.out
          rw [if_neg hns, if_pos hk13] at hO
          have HO3 := Lib.hid hO
          obtain ⟨hr0, hr1⟩ := HSW2.out hk13
          obtain ⟨rf, hrf⟩ := Int.eq_ofNat_of_zero_le hr0
          rw [hrf] at f2 HO3
          rw [Int.toNat_natCast] at HO3
          have HRF := Lib.hid (show rf < l0.length by omega)
          have hl1 : ((L : Int) == 1) = false := by rw [beq_eq_false_iff_ne]; omega
          clear hO hk13 hns hr0 hr1 hrf
          cases hki : N [(i : Int)] with
          | none =>
            rw [hki] at hlk
            rw [show ptrV (Option.map Prod.fst (none : Option (Nat × Nat))) = .pointer none from rfl] at hlk
            go_wp2_with fail
            refine (empty_calls w3).mono ?_
            rintro e w4 ⟨kb, km, rfl, hkb1, hkb2, hB4, hM4⟩
            rw [show ptrV (some kb) = .pointer (some ⟨kb, 0, none⟩) from rfl]
            have HB4 := Lib.hid (HB3.out.trans (hB4.mono HB3.out.size))
            have HM4 := Lib.hid hM4
            have HKB := Lib.hid (And.intro hkb1 hkb2)
            have bS4 := blk_below HBS3.out hB4 (blk_lt HBS3.out)
            have bF4 := blk_below HBF.out hB4 (blk_lt HBF.out)
            have f2 : w4.cell? ⟨FB, 2, none⟩ = some (.int .i64 (rf : Int)) := cell_kept f2 hB4
            have lF := blk_lt bF4
            have HBS4 := Lib.hid bS4
            have s0 : w4.cell? ⟨S, 0, none⟩ = some (.slice (some ⟨q0, o0, none⟩) l0.length c0) := by rw [blk_cell HBS4.out]; rfl
            have s1 : w4.cell? ⟨S, 1, none⟩ = some (.slice A1 l1.length c1) := by rw [blk_cell HBS4.out]; rfl
            have s2 : w4.cell? ⟨S, 2, none⟩ = some (.int .i64 root) := by rw [blk_cell HBS4.out]; rfl
            have lS := blk_lt HBS4.out
            clear hB4 hM4 hkb1 hkb2 bF4 bS4 f1 m1 lb hlk lm
            go_upto_region 14 with (fail)
            (have hX := SameAs.cell w4 1; refine wp_region_same_tail 7 (by kernel_rfl) (by kernel_rfl) ?_; simp only [List.take_succ_cons, List.take_zero, List.drop_succ_cons, List.drop_zero]; (repeat (go_big_quiet_step (fail))); refine wpQuiet_nil ?_; clear hX)
            have hMX : Msk (w4.drewN 1) n (newN kb km) [] := (HM4.out.mono (Nat.zero_le n)).kept fun _ _ => rfl
            have hkX : newN kb km [] = some (kb, km) := rfl
            have HMK := HM4
            have hsz4 : w.heap.size ≤ w4.heap.size := HB4.out.size
            have hszk : w.heap.size ≤ kb ∧ w.heap.size ≤ km := by have h2 := HB3.out.size; have h3 := HKB.out; exact ⟨by omega, by omega⟩
            have HSZ := Lib.hid (And.intro hsz4 hszk)
            clear hsz4 hszk
            have hLn : L - 1 = ns.length := by have := HL.out; omega
            have hBX : Below w.heap.size w (World.drewN w4 1) := below_drewN HB4.out 1
            have hcl := HIH.out rf (some ⟨qn, on + 1, none⟩) (cn - 1) (World.drewN w4 1) n (newN kb km) ([]) kb km HRF.out (Kd.C_below HC0.out hBX) (Kd.C_below HDR.out hBX) (by omega) HNN.out hMX hkX
            have HBX := Lib.hid hBX
            rw [← hLn] at hcl
            have HCL := Lib.hid hcl
            clear hMX hcl hLn hBX
            go_wp2_with fail
            refine HCL.out.mono ?_
            intro e w5 hp
            cases hwy : wayI l0 ns rf with
            | none =>
              obtain ⟨rfl, hB5⟩ := hp.no hwy
              have HB5 := Lib.hid (HBX.out.trans (hB5.mono HBX.out.size))
              have HO4 := Lib.hid (show wayI l0 (nm :: ns) rec = none by rw [HO3.out, hwy]; rfl)
              clear hp hB5 hwy
              go_wp2_with fail
              go_ret
              exact AddPost.false HO4.out HB5.out
            | some r =>
              obtain ⟨rfl, N5, hM5', hN5, hnew5, hT5'⟩ := hp.yes r hwy
              have HO3 := Lib.hid (show wayI l0 (nm :: ns) rec = some ((i : Int) :: r) by rw [HO3.out, hwy]; rfl)
              have hk5 : N5 [] = some (kb, km) := hN5.trans hkX
              have hM5 : Msk w5 (n + 1) N5 (under (i : Int) W ++ [r]) := (by rw [HM.out.under_none hki]; exact hM5')
              have hT5 : Turn w w5 (InKid N (i : Int)) := (Turn.of_below HBX.out _).trans hT5' (fun j hj hs => absurd (inNew hs) (by have h3 := HSZ.out.2; omega))
              have hnw : ∀ q y, N5 q = some y → N ((i : Int) :: q) = some y ∨ (w.heap.size ≤ y.1 ∧ w.heap.size ≤ y.2) := (fun q y hq => .inr ((hnew5 q y hq).elim (fun h5 => by rw [newN_some h5]; exact HSZ.out.2) (fun h5 => ⟨Nat.le_trans HSZ.out.1 h5.1, Nat.le_trans HSZ.out.1 h5.2⟩)))
              have HNW := Lib.hid hnw
              clear hp hwy hM5' hT5' hnew5 hN5 hnw hkX f2 lF s0 s1 s2 lS
              go_upto_region 16 with (fail)
              have HM5 := Lib.hid hM5
              have HT5 := Lib.hid hT5
              have hRA := HM.out.rootAt hT5 HR.out
              obtain ⟨Dm, hDm, hDk⟩ := hRA.2.out
              have bM := hRA.1
              have m1 : w5.cell? ⟨b, 1, none⟩ = some (.map (some m)) := by rw [blk_cell bM]; rfl
              have lb := blk_lt bM
              have HDM := Lib.hid hDm
              have HDK := Lib.hid hDk
              clear hM5 hT5 hRA bM hDm hDk
              go_wp2_with (at_mapUpdate; refine wpList_mapUpdate_own _ rfl _ _ _ 154 rfl 3 68 intKeyed Tryd.underlying154 _ m n _ rfl HDM.out HNN.out _ _ _ rfl rfl (keyOfI HWFI.out) _ [] (ptrR_mk (some kb)) ?_)
              intro w6 hown hg6
              have HKP := Lib.hid (KidsAt.put HWFI.out HDM.out HDK.out hown)
              have HG6 := Lib.hid hg6
              clear hown hg6
              go_wp2_with fail
              go_ret
              refine ⟨fun h => (by rw [HO3.out] at h; cases h), fun r hr => ?_⟩
              rw [HO3.out] at hr
              cases hr
              exact ⟨rfl, _, add_end (kid := N5) HM.out HR.out (HM5.out) (by first | exact hk5 | exact hki | rfl) HWFI.out HT5.out (HNW.out) HG6.out HKP.out⟩
          | some x =>
            obtain ⟨kb, km⟩ := x
            rw [hki] at hlk
            rw [show ptrV (Option.map Prod.fst (some (kb, km))) = .pointer (some ⟨kb, 0, none⟩) from rfl] at hlk
            have HMK := Lib.hid (HM3.out.kid (i := (i : Int)) (by rw [hki]; rfl))
            have s0 : w3.cell? ⟨S, 0, none⟩ = some (.slice (some ⟨q0, o0, none⟩) l0.length c0) := by rw [blk_cell HBS3.out]; rfl
            have s1 : w3.cell? ⟨S, 1, none⟩ = some (.slice A1 l1.length c1) := by rw [blk_cell HBS3.out]; rfl
            have s2 : w3.cell? ⟨S, 2, none⟩ = some (.int .i64 root) := by rw [blk_cell HBS3.out]; rfl
            have lS := blk_lt HBS3.out
            go_upto_region 14 with (fail)
            (have hX := SameAs.cell w3 1; refine wp_region_same_tail 7 (by kernel_rfl) (by kernel_rfl) ?_; simp only [List.take_succ_cons, List.take_zero, List.drop_succ_cons, List.drop_zero]; (repeat (go_big_quiet_step (fail))); refine wpQuiet_nil ?_; clear hX)
            have hMX : Msk (w3.drewN 1) n (kidN N (i : Int)) (under (i : Int) W) := HMK.out.kept fun _ _ => rfl
            have hkX : kidN N (i : Int) [] = some (kb, km) := hki
            clear f1 m1 lb hlk lm
            have HSZ := Lib.hid (show w.heap.size ≤ w3.heap.size from HB3.out.size)
            have hLn : L - 1 = ns.length := by have := HL.out; omega
            have hBX : Below w.heap.size w (World.drewN w3 1) := below_drewN HB3.out 1
            have hcl := HIH.out rf (some ⟨qn, on + 1, none⟩) (cn - 1) (World.drewN w3 1) n (kidN N (i : Int)) (under (i : Int) W) kb km HRF.out (Kd.C_below HC0.out hBX) (Kd.C_below HDR.out hBX) (by omega) HNN.out hMX hkX
            have HBX := Lib.hid hBX
            rw [← hLn] at hcl
            have HCL := Lib.hid hcl
            clear hMX hcl hLn hBX
            go_wp2_with fail
            refine HCL.out.mono ?_
            intro e w5 hp
            cases hwy : wayI l0 ns rf with
            | none =>
              obtain ⟨rfl, hB5⟩ := hp.no hwy
              have HB5 := Lib.hid (HBX.out.trans (hB5.mono HBX.out.size))
              have HO4 := Lib.hid (show wayI l0 (nm :: ns) rec = none by rw [HO3.out, hwy]; rfl)
              clear hp hB5 hwy
              go_wp2_with fail
              go_ret
              exact AddPost.false HO4.out HB5.out
            | some r =>
              obtain ⟨rfl, N5, hM5', hN5, hnew5, hT5'⟩ := hp.yes r hwy
              have HO3 := Lib.hid (show wayI l0 (nm :: ns) rec = some ((i : Int) :: r) by rw [HO3.out, hwy]; rfl)
              have hk5 : N5 [] = some (kb, km) := hN5.trans hkX
              have hM5 : Msk w5 (n + 1) N5 (under (i : Int) W ++ [r]) := (hM5')
              have hT5 : Turn w w5 (InKid N (i : Int)) := (Turn.of_below HBX.out _).trans hT5' (fun j hj hs => hs)
              have hnw : ∀ q y, N5 q = some y → N ((i : Int) :: q) = some y ∨ (w.heap.size ≤ y.1 ∧ w.heap.size ≤ y.2) := (fun q y hq => (hnew5 q y hq).elim (fun h5 => .inl h5) (fun h5 => .inr ⟨Nat.le_trans HSZ.out h5.1, Nat.le_trans HSZ.out h5.2⟩))
              have HNW := Lib.hid hnw
              clear hp hwy hM5' hT5' hnew5 hN5 hnw hkX f2 lF s0 s1 s2 lS
              go_upto_region 16 with (fail)
              have HM5 := Lib.hid hM5
              have HT5 := Lib.hid hT5
              have hRA := HM.out.rootAt hT5 HR.out
              obtain ⟨Dm, hDm, hDk⟩ := hRA.2.out
              have bM := hRA.1
              have m1 : w5.cell? ⟨b, 1, none⟩ = some (.map (some m)) := by rw [blk_cell bM]; rfl
              have lb := blk_lt bM
              have HDM := Lib.hid hDm
              have HDK := Lib.hid hDk
              clear hM5 hT5 hRA bM hDm hDk
              go_wp2_with (at_mapUpdate; refine wpList_mapUpdate_own _ rfl _ _ _ 154 rfl 3 68 intKeyed Tryd.underlying154 _ m n _ rfl HDM.out HNN.out _ _ _ rfl rfl (keyOfI HWFI.out) _ [] (ptrR_mk (some kb)) ?_)
              intro w6 hown hg6
              have HKP := Lib.hid (KidsAt.put HWFI.out HDM.out HDK.out hown)
              have HG6 := Lib.hid hg6
              clear hown hg6
              go_wp2_with fail
              go_ret
              refine ⟨fun h => (by rw [HO3.out] at h; cases h), fun r hr => ?_⟩
              rw [HO3.out] at hr
              cases hr
              exact ⟨rfl, _, add_end (kid := N5) HM.out HR.out (HM5.out) (by first | exact hk5 | exact hki | rfl) HWFI.out HT5.out (HNW.out) HG6.out HKP.out⟩
        · have hkb : (f.f1.f0 != 13) = true := by rw [bne_iff_ne]; exact hk13
          have hO := HO2.out
          rw [if_neg hns, if_neg hk13] at hO
          have HO3 := Lib.hid hO
          clear hO hk13 hns
          go_wp2_with fail
          go_ret
          exact AddPost.false HO3.out HB3.out

end Go.Proofs.YtejpjclbeogajaaDoor

-- laid by a program (wip/printf.sh): functions of the program as plain Lean functions, with their contracts
namespace Go.Proofs.YtejpjclbeogajaaDoorP.Pf
open Go.RowKit Go.Proofs.YtejpjclbeogajaaDoorW.PrintWords Go.Proofs.YtejpjclbeogajaaDoorW.PrintLast Go.Proofs.YtejpjclbeogajaaDoor.PwG
set_option linter.unusedVariables false
set_option linter.unusedSimpArgs false

/-! ### mask_Names: function 34 -/
mutual
def mask_Names.l0 : Nat → List (S103) → Int → List ByteArray → Option (List ByteArray × Int × Bool)
  | 0, _, _, _ => none
  | k + 1, x0, x1, x7 => if x1 ≥ (x0.length : Int) then (mask_Names.j1 k x0 x1 x7 true) else (if 0 ≤ x1 then (if x1 < (x0.length : Int) then (if ((rd_T103 x0 x1).f0) = 1 then (mask_Names.j1 k x0 x1 x7 false) else (mask_Names.j1 k x0 x1 x7 (((rd_T103 x0 x1).f0) != 3))) else (none)) else (none))
def mask_Names.j1 : Nat → List (S103) → Int → List ByteArray → Bool → Option (List ByteArray × Int × Bool)
  | 0, _, _, _, _ => none
  | k + 1, x0, x1, x7, x27 => if x27 = true then (some (([] : List ByteArray), x1, false)) else (if 0 ≤ x1 then (if x1 < (x0.length : Int) then (if x7.length < 8796093022208 then ((some (x7 ++ [(rd_T103 x0 x1).f1] : List ByteArray)).bind fun y209 => (if (wrap64 (x1 + 1)) ≥ (x0.length : Int) then (some (y209, wrap64 (x1 + 1), true)) else (if 0 ≤ (wrap64 (x1 + 1)) then (if (wrap64 (x1 + 1)) < (x0.length : Int) then (if ((rd_T103 x0 (wrap64 (x1 + 1))).f0) = 4 then (if ((rd_T103 x0 (wrap64 (x1 + 1))).f1).toList = ([46] : List UInt8) then (mask_Names.l0 k x0 (wrap64 ((wrap64 (x1 + 1)) + 1)) y209) else (some (y209, wrap64 (x1 + 1), true))) else (some (y209, wrap64 (x1 + 1), true))) else (none)) else (none)))) else (none)) else (none)) else (none))
end
def mask_Names.f (k : Nat) (l0 : List (S103)) (a1 : Int) : Option (List ByteArray × Int × Bool) := mask_Names.l0 k l0 a1 ([] : List ByteArray)
theorem mask_Names.mono_l : ∀ k, (∀ y0 y1 y2, LeO (mask_Names.l0 k y0 y1 y2) (mask_Names.l0 (k + 1) y0 y1 y2)) ∧ (∀ y0 y1 y2 y3, LeO (mask_Names.j1 k y0 y1 y2 y3) (mask_Names.j1 (k + 1) y0 y1 y2 y3))
  | 0 => ⟨fun _ _ _ r h => by simp [mask_Names.l0] at h, fun _ _ _ _ r h => by simp [mask_Names.j1] at h⟩
  | k + 1 => by
    obtain ⟨ih0, ih1⟩ := mask_Names.mono_l k
    refine ⟨?_, ?_⟩
    · intro y0 y1 y2
      unfold mask_Names.l0
      repeat' first
      | (with_reducible exact ih0 _ _ _)
      | (with_reducible exact ih1 _ _ _ _)
      | (with_reducible exact LeO.refl _)
      | (with_reducible exact LeO.none _)
      | (with_reducible refine LeO.ite ?_ ?_)
      | (with_reducible refine LeO.bind ?_ (fun _ => ?_))
      | exact ih0 _ _ _
      | exact ih1 _ _ _ _
      | exact LeO.none _
      | refine LeO.ite ?_ ?_
      | refine LeO.bind ?_ (fun _ => ?_)
    · intro y0 y1 y2 y3
      unfold mask_Names.j1
      repeat' first
      | (with_reducible exact ih0 _ _ _)
      | (with_reducible exact ih1 _ _ _ _)
      | (with_reducible exact LeO.refl _)
      | (with_reducible exact LeO.none _)
      | (with_reducible refine LeO.ite ?_ ?_)
      | (with_reducible refine LeO.bind ?_ (fun _ => ?_))
      | exact ih0 _ _ _
      | exact ih1 _ _ _ _
      | exact LeO.none _
      | refine LeO.ite ?_ ?_
      | refine LeO.bind ?_ (fun _ => ?_)
theorem mask_Names.mono : ∀ a0 a1 k, LeO (mask_Names.f k a0 a1) (mask_Names.f (k + 1) a0 a1) := by
  intro a0 a1 k
  obtain ⟨ih0, ih1⟩ := mask_Names.mono_l k
  unfold mask_Names.f
  repeat' first
      | (with_reducible exact ih0 _ _ _)
      | (with_reducible exact ih1 _ _ _ _)
      | (with_reducible exact LeO.refl _)
      | (with_reducible exact LeO.none _)
      | (with_reducible refine LeO.ite ?_ ?_)
      | (with_reducible refine LeO.bind ?_ (fun _ => ?_))
      | exact ih0 _ _ _
      | exact ih1 _ _ _ _
      | exact LeO.none _
      | refine LeO.ite ?_ ?_
      | refine LeO.bind ?_ (fun _ => ?_)
set_option maxHeartbeats 8000000 in
set_option maxRecDepth 100000 in
theorem mask_Names.calls (k : Nat) (A0 : Option Addr) (c0 : Nat) (l0 : List (S103)) (a1 : Int) (r1 : List ByteArray) (r2 : Int) (r3 : Bool) (w : World) (hr0 : Kd.C k103 w A0 l0.length l0) (hc0 : l0.length ≤ c0) (h : mask_Names.f k l0 a1 = some (r1, r2, r3)) :
    Calls Tryd.prog 34 #[.slice A0 l0.length c0, .int .i64 a1] w fun e w' => ∃ v0_ : Value, e = .returned (.tuple #[v0_, .int .i64 r2, .bool r3]) ∧ Kd.R Kd.string 9 w' w.heap.size (fun _ => True) v0_ r1 ∧ Below w.heap.size w w' := by
  have HR0 := Aside0.mk hr0
  have HC0 := Aside0.mk hc0
  clear hr0 hc0
  have HB := Aside0.mk (Below.refl w.heap.size w)
  have H : (mask_Names.l0 k l0 a1 ([] : List ByteArray)) = some (r1, r2, r3) := h
  clear h
  have H' := Aside0.mk H
  clear H
  go_enter Tryd.func34, Tryd.ntmps34
  go_wp2
  go_loopg [1, 7] k (fun kq v1 v7 w' => ∃ (x1_1 : Int) (x7_1 : List ByteArray), v1 = .int .i64 x1_1 ∧ Aside0 (mask_Names.l0 kq l0 x1_1 x7_1 = some (r1, r2, r3)) ∧ Aside0 (kq ≤ k) ∧ Aside0 (Kd.R Kd.string 9 w' w.heap.size (fun _ => True) v7 x7_1) ∧ Aside0 (Below w.heap.size w w'))
  case atStart => exact ⟨(a1), (([] : List ByteArray)), (by first | rfl | (simp; done) | (simp [*]; done)), H', ⟨Nat.le_refl _⟩, ⟨by first | exact Kd.R_nil _ _ _ _ _ | exact Kd.Q_nil _ _ _ _ _ | exact Kd.S_nil _ _ _ _ _⟩, ⟨by repeat (first | (with_reducible first | exact HB.out | apply below_alloc | apply pw_below_drewN | apply below_drew1) | exact HB.out)⟩⟩
  case round =>
    clear H'
    try clear p2
    obtain ⟨x1_1, x7_1, rfl, HA, HK1, HO_7, HB⟩ := hrel
    cases gk with
    | zero => exact absurd HA.out (by simp [mask_Names.l0])
    | succ k1 =>
      have H := HA.out
      clear HA
      simp only [mask_Names.l0] at H
      have HC3 := Aside0.mk H
      clear H
      go_upto_region 2 with (fail)
      go_cut [27] (fun v27 wc => ∃ (kq : Nat) (x27_2 : Bool), v27 = .bool x27_2 ∧ Aside0 (mask_Names.j1 kq l0 x1_1 x7_1 x27_2 = some (r1, r2, r3)) ∧ Aside0 (kq ≤ k1) ∧ Aside0 (Kd.R Kd.string 9 wc w.heap.size (fun _ => True) u7 x7_1) ∧ Aside0 (Below w.heap.size w wc))
      case first =>
        have H := HC3.out
        clear HC3
        by_cases c4 : x1_1 ≥ (l0.length : Int)
        · rw [if_pos c4] at H
          have c4b0 : decide ((l0.length : Int) ≤ x1_1) = true := decide_eq_true c4
          clear c4
          (first | rw [c4b0] | (simp only [i64_w, i32_w]; rw [c4b0]) | skip)
          have H' := Aside0.mk H
          clear H
          go_wp2
          go_meet
          case rel => exact ⟨_, (true), (by first | rfl | (simp; done) | (simp [*]; done)), H', ⟨by have := HK1.out; first | omega | exact Nat.le_refl _⟩, ⟨by (with_reducible repeat (first | apply Kd.R_alloc | apply Kd.R_drewN | apply Kd.R_drew)); exact HO_7.out⟩, ⟨by repeat (first | (with_reducible first | exact HB.out | apply below_alloc | apply pw_below_drewN | apply below_drew1) | exact HB.out)⟩⟩
        · rw [if_neg c4] at H
          have c4b0 : decide ((l0.length : Int) ≤ x1_1) = false := decide_eq_false c4
          clear c4
          (first | rw [c4b0] | (simp only [i64_w, i32_w]; rw [c4b0]) | skip)
          by_cases c5 : 0 ≤ x1_1
          · rw [if_pos c5] at H
            have c5b0 : decide (0 ≤ x1_1) = true := decide_eq_true c5
            clear c5
            by_cases c6 : x1_1 < (l0.length : Int)
            · rw [if_pos c6] at H
              have c6b0 : decide (x1_1 < (l0.length : Int)) = true := decide_eq_true c6
              clear c6
              by_cases c7 : ((rd_T103 l0 x1_1).f0) = 1
              · rw [if_pos c7] at H
                have c7b0 : (((rd_T103 l0 x1_1).f0) == 1) = true := beq_iff_eq.mpr c7
                have c7b1 : (((rd_T103 l0 x1_1).f0) != 1) = false := bne_eq_false_iff_eq.mpr c7
                clear c7
                have H' := Aside0.mk H
                clear H
                have p206 : 0 ≤ (x1_1 : Int) := of_decide_eq_true (by first | (with_reducible assumption) | assumption)
                have q206 : x1_1 < (l0.length : Int) := of_decide_eq_true (by first | (with_reducible assumption) | assumption)
                obtain ⟨ad206, e206, hx206_0, hx206_1, hx206_2⟩ := at_T103 HR0.out x1_1 p206 q206
                cases e206
                replace hx206_0 := (HB.out.cell (World.block_lt_of_cell? w _ hx206_0)).trans hx206_0
                replace hx206_1 := (HB.out.cell (World.block_lt_of_cell? w _ hx206_1)).trans hx206_1
                replace hx206_2 := (HB.out.cell (World.block_lt_of_cell? w _ hx206_2)).trans hx206_2
                replace p206 := eq_true p206
                replace q206 := eq_true q206
                go_wp2
                go_meet
                case rel => exact ⟨_, (false), (by first | rfl | (simp; done) | (simp [*]; done)), H', ⟨by have := HK1.out; first | omega | exact Nat.le_refl _⟩, ⟨by (with_reducible repeat (first | apply Kd.R_alloc | apply Kd.R_drewN | apply Kd.R_drew)); exact HO_7.out⟩, ⟨by repeat (first | (with_reducible first | exact HB.out | apply below_alloc | apply pw_below_drewN | apply below_drew1) | exact HB.out)⟩⟩
              · rw [if_neg c7] at H
                have c7b0 : (((rd_T103 l0 x1_1).f0) == 1) = false := beq_eq_false_iff_ne.mpr c7
                have c7b1 : (((rd_T103 l0 x1_1).f0) != 1) = true := bne_iff_ne.mpr c7
                have H' := Aside0.mk H
                clear H
                have p206 : 0 ≤ (x1_1 : Int) := of_decide_eq_true (by first | (with_reducible assumption) | assumption)
                have q206 : x1_1 < (l0.length : Int) := of_decide_eq_true (by first | (with_reducible assumption) | assumption)
                obtain ⟨ad206, e206, hx206_0, hx206_1, hx206_2⟩ := at_T103 HR0.out x1_1 p206 q206
                cases e206
                replace hx206_0 := (HB.out.cell (World.block_lt_of_cell? w _ hx206_0)).trans hx206_0
                replace hx206_1 := (HB.out.cell (World.block_lt_of_cell? w _ hx206_1)).trans hx206_1
                replace hx206_2 := (HB.out.cell (World.block_lt_of_cell? w _ hx206_2)).trans hx206_2
                replace p206 := eq_true p206
                replace q206 := eq_true q206
                have p207 : 0 ≤ (x1_1 : Int) := of_decide_eq_true (by first | (with_reducible assumption) | assumption)
                have q207 : x1_1 < (l0.length : Int) := of_decide_eq_true (by first | (with_reducible assumption) | assumption)
                obtain ⟨ad207, e207, hx207_0, hx207_1, hx207_2⟩ := at_T103 HR0.out x1_1 p207 q207
                obtain rfl : ad206 = ad207 := (by injection e207)
                replace hx207_0 := (HB.out.cell (World.block_lt_of_cell? w _ hx207_0)).trans hx207_0
                replace hx207_1 := (HB.out.cell (World.block_lt_of_cell? w _ hx207_1)).trans hx207_1
                replace hx207_2 := (HB.out.cell (World.block_lt_of_cell? w _ hx207_2)).trans hx207_2
                replace p207 := eq_true p207
                replace q207 := eq_true q207
                go_wp2
                go_meet
                case rel => exact ⟨_, ((((rd_T103 l0 x1_1).f0) != 3)), (by first | rfl | (simp; done) | (simp [*]; done)), H', ⟨by have := HK1.out; first | omega | exact Nat.le_refl _⟩, ⟨by (with_reducible repeat (first | apply Kd.R_alloc | apply Kd.R_drewN | apply Kd.R_drew)); exact HO_7.out⟩, ⟨by repeat (first | (with_reducible first | exact HB.out | apply below_alloc | apply pw_below_drewN | apply below_drew1) | exact HB.out)⟩⟩
            · rw [if_neg c6] at H
              exact absurd H (by simp)
          · rw [if_neg c5] at H
            exact absurd H (by simp)
      case rest =>
        clear HC3
        try clear p2
        try clear q2
        try clear hx2
        try clear c3
        try clear c4
        try clear c4b0
        try clear c5
        try clear c5b0
        try clear c6
        try clear c6b0
        try clear c7
        try clear c7b0
        try clear c7b1
        try clear hx206_0
        try clear hx206_1
        try clear hx206_2
        try clear hx207_0
        try clear hx207_1
        try clear hx207_2
        try clear p2
        try clear p206
        try clear p207
        try clear q206
        try clear q207
        obtain ⟨kq, x27_2, rfl, HA, HJ2, HO_7, HB⟩ := hcut
        cases kq with
        | zero => exact absurd HA.out (by simp [mask_Names.j1])
        | succ kj2 =>
          have H := HA.out
          clear HA
          simp only [mask_Names.j1] at H
          by_cases c8 : x27_2 = true
          · subst c8
            have H1 : (some (([] : List ByteArray), x1_1, false)) = some (r1, r2, r3) := by rw [if_pos rfl] at H; exact H
            clear H
            have H := H1
            clear H1
            simp only [Option.some.injEq, Prod.mk.injEq] at H
            obtain ⟨rfl, rfl, rfl⟩ := H
            go_wp2
            go_ret3
            exact ⟨_, by first | rfl | (simp [errW_none, errW_some] <;> rfl) | (simp [*, errW_none, errW_some] <;> rfl), by first | exact Kd.R_nil _ _ _ _ _ | exact Kd.Q_nil _ _ _ _ _ | exact Kd.S_nil _ _ _ _ _, by repeat (first | (with_reducible first | exact HB.out | apply below_alloc | apply pw_below_drewN | apply below_drew1) | exact HB.out)⟩
          · replace c8 := Bool.eq_false_iff.mpr c8
            subst c8
            have H1 : (if 0 ≤ x1_1 then (if x1_1 < (l0.length : Int) then (if x7_1.length < 8796093022208 then ((some (x7_1 ++ [(rd_T103 l0 x1_1).f1] : List ByteArray)).bind fun y209 => (if (wrap64 (x1_1 + 1)) ≥ (l0.length : Int) then (some (y209, wrap64 (x1_1 + 1), true)) else (if 0 ≤ (wrap64 (x1_1 + 1)) then (if (wrap64 (x1_1 + 1)) < (l0.length : Int) then (if ((rd_T103 l0 (wrap64 (x1_1 + 1))).f0) = 4 then (if ((rd_T103 l0 (wrap64 (x1_1 + 1))).f1).toList = ([46] : List UInt8) then (mask_Names.l0 kj2 l0 (wrap64 ((wrap64 (x1_1 + 1)) + 1)) y209) else (some (y209, wrap64 (x1_1 + 1), true))) else (some (y209, wrap64 (x1_1 + 1), true))) else (none)) else (none)))) else (none)) else (none)) else (none)) = some (r1, r2, r3) := by rw [if_neg (show ¬ (false = true) by decide)] at H; exact H
            clear H
            have H := H1
            clear H1
            by_cases c9 : 0 ≤ x1_1
            · rw [if_pos c9] at H
              have c9b0 : decide (0 ≤ x1_1) = true := decide_eq_true c9
              clear c9
              by_cases c10 : x1_1 < (l0.length : Int)
              · rw [if_pos c10] at H
                have c10b0 : decide (x1_1 < (l0.length : Int)) = true := decide_eq_true c10
                clear c10
                by_cases c11 : x7_1.length < 8796093022208
                · rw [if_pos c11] at H
                  have LMc11 := Aside0.mk c11
                  clear c11
                  obtain ⟨y209, hy209⟩ : ∃ y_ : List ByteArray, y_ = (x7_1 ++ [(rd_T103 l0 x1_1).f1]) := ⟨_, rfl⟩
                  replace H : (if (wrap64 (x1_1 + 1)) ≥ (l0.length : Int) then (some (y209, wrap64 (x1_1 + 1), true)) else (if 0 ≤ (wrap64 (x1_1 + 1)) then (if (wrap64 (x1_1 + 1)) < (l0.length : Int) then (if ((rd_T103 l0 (wrap64 (x1_1 + 1))).f0) = 4 then (if ((rd_T103 l0 (wrap64 (x1_1 + 1))).f1).toList = ([46] : List UInt8) then (mask_Names.l0 kj2 l0 (wrap64 ((wrap64 (x1_1 + 1)) + 1)) y209) else (some (y209, wrap64 (x1_1 + 1), true))) else (some (y209, wrap64 (x1_1 + 1), true))) else (none)) else (none))) = some (r1, r2, r3) := by first | (rw [hy209]; with_reducible exact H) | (have H2_ := (Option.bind_some _ _).symm.trans H; rw [hy209]; with_reducible exact H2_) | (have H2_ := (Option.bind_some _ _).symm.trans H; with_reducible exact H2_) | with_reducible exact H | (rw [hy209]; exact H) | exact H
                  have Ny209 := Aside0.mk hy209
                  clear hy209
                  by_cases c12 : (wrap64 (x1_1 + 1)) ≥ (l0.length : Int)
                  · rw [if_pos c12] at H
                    have c12b0 : decide ((l0.length : Int) ≤ (wrap64 (x1_1 + 1))) = true := decide_eq_true c12
                    clear c12
                    simp only [Option.some.injEq, Prod.mk.injEq] at H
                    obtain ⟨rfl, rfl, rfl⟩ := H
                    have p208 : 0 ≤ (x1_1 : Int) := of_decide_eq_true (by first | (with_reducible assumption) | assumption)
                    have q208 : x1_1 < (l0.length : Int) := of_decide_eq_true (by first | (with_reducible assumption) | assumption)
                    obtain ⟨ad208, e208, hx208_0, hx208_1, hx208_2⟩ := at_T103 HR0.out x1_1 p208 q208
                    cases e208
                    replace hx208_0 := (HB.out.cell (World.block_lt_of_cell? w _ hx208_0)).trans hx208_0
                    replace hx208_1 := (HB.out.cell (World.block_lt_of_cell? w _ hx208_1)).trans hx208_1
                    replace hx208_2 := (HB.out.cell (World.block_lt_of_cell? w _ hx208_2)).trans hx208_2
                    replace p208 := eq_true p208
                    replace q208 := eq_true q208
                    go_wp2_with (first | ((with_reducible refine gateB (b := .append) (xs := #[.tmp 29, .tmp 35]) rfl ?_); at_builtin; refine Kd.R_append Kd.string (w0 := w) w.heap.size rfl (.tmp 29) (.tmp 35) 83 9 (.string ⟨#[]⟩) 16 rfl Tryd.underlying83 info9 rfl (by decide) (by omega) u7 x7_1 ((rd_T103 l0 x1_1).f1) [.string ((rd_T103 l0 x1_1).f1)] (fun _ => True) (fun _ => False) rfl rfl ?aP (fun _ hk => hk.elim) ?aF ?aO ?aB ?aS ?aL ?_; (case aP => exact rfl); (case aB => exact (by repeat (first | (with_reducible first | exact HB.out | apply below_alloc | apply pw_below_drewN | apply below_drew1) | exact HB.out))); (case aF => exact (fun _ _ => trivial)); (case aO => exact (by (with_reducible repeat (first | apply Kd.R_alloc | apply Kd.R_drewN | apply Kd.R_drew)); exact HO_7.out)); (case aS => exact (below_size (by repeat (first | (with_reducible first | exact HB.out | apply below_alloc | apply pw_below_drewN | apply below_drew1) | exact HB.out)))); (case aL => have := LMc11.out; omega); intro v210 w13 ho hb hg hat; rw [← Ny209.out] at ho; have n0_ := Aside0.mk (hb); have n1_ := Aside0.mk (ho); clear HB; clear HO_7; have HB := n0_; have HO211 := n1_; clear n0_ n1_; clear ho hb hg hat))
                    go_ret3
                    exact ⟨_, by first | rfl | (simp [errW_none, errW_some] <;> rfl) | (simp [*, errW_none, errW_some] <;> rfl), by (with_reducible repeat (first | apply Kd.R_alloc | apply Kd.R_drewN | apply Kd.R_drew)); exact HO211.out, by repeat (first | (with_reducible first | exact HB.out | apply below_alloc | apply pw_below_drewN | apply below_drew1) | exact HB.out)⟩
                  · rw [if_neg c12] at H
                    have c12b0 : decide ((l0.length : Int) ≤ (wrap64 (x1_1 + 1))) = false := decide_eq_false c12
                    clear c12
                    obtain ⟨ji14, hji14⟩ : ∃ j_ : Int, (wrap64 (x1_1 + 1)) = j_ := ⟨_, rfl⟩
                    replace H : (if 0 ≤ (ji14) then (if (ji14) < (l0.length : Int) then (if ((rd_T103 l0 (ji14)).f0) = 4 then (if ((rd_T103 l0 (ji14)).f1).toList = ([46] : List UInt8) then (mask_Names.l0 kj2 l0 (wrap64 ((ji14) + 1)) y209) else (some (y209, ji14, true))) else (some (y209, ji14, true))) else (none)) else (none)) = some (r1, r2, r3) := by first | (rw [hji14] at H; exact H) | (simp only [hji14] at H ⊢; exact H)
                    (try rw [hji14] at c12b0)
                    have hji14w : (IntKind.i64.wrap (x1_1 + 1)) = ji14 := (i64_w _).trans hji14
                    by_cases c15 : 0 ≤ (ji14)
                    · rw [if_pos c15] at H
                      have c15b0 : decide (0 ≤ (ji14)) = true := decide_eq_true c15
                      clear c15
                      by_cases c16 : (ji14) < (l0.length : Int)
                      · rw [if_pos c16] at H
                        have c16b0 : decide ((ji14) < (l0.length : Int)) = true := decide_eq_true c16
                        clear c16
                        by_cases c17 : ((rd_T103 l0 (ji14)).f0) = 4
                        · rw [if_pos c17] at H
                          have c17b0 : (((rd_T103 l0 (ji14)).f0) == 4) = true := beq_iff_eq.mpr c17
                          have c17b1 : (((rd_T103 l0 (ji14)).f0) != 4) = false := bne_eq_false_iff_eq.mpr c17
                          clear c17
                          by_cases c18 : ((rd_T103 l0 (ji14)).f1).toList = ([46] : List UInt8)
                          · rw [if_pos c18] at H
                            have c18b0 : (((rd_T103 l0 (ji14)).f1).toList == ([46] : List UInt8)) = true := beq_iff_eq.mpr c18
                            have c18b1 : (((rd_T103 l0 (ji14)).f1).toList != ([46] : List UInt8)) = false := bne_eq_false_iff_eq.mpr c18
                            clear c18
                            have H' := Aside0.mk H
                            clear H
                            have p208 : 0 ≤ (x1_1 : Int) := of_decide_eq_true (by first | (with_reducible assumption) | assumption)
                            have q208 : x1_1 < (l0.length : Int) := of_decide_eq_true (by first | (with_reducible assumption) | assumption)
                            obtain ⟨ad208, e208, hx208_0, hx208_1, hx208_2⟩ := at_T103 HR0.out x1_1 p208 q208
                            cases e208
                            replace hx208_0 := (HB.out.cell (World.block_lt_of_cell? w _ hx208_0)).trans hx208_0
                            replace hx208_1 := (HB.out.cell (World.block_lt_of_cell? w _ hx208_1)).trans hx208_1
                            replace hx208_2 := (HB.out.cell (World.block_lt_of_cell? w _ hx208_2)).trans hx208_2
                            replace p208 := eq_true p208
                            replace q208 := eq_true q208
                            go_wp2_with (first | ((with_reducible refine gateB (b := .append) (xs := #[.tmp 29, .tmp 35]) rfl ?_); at_builtin; refine Kd.R_append Kd.string (w0 := w) w.heap.size rfl (.tmp 29) (.tmp 35) 83 9 (.string ⟨#[]⟩) 16 rfl Tryd.underlying83 info9 rfl (by decide) (by omega) u7 x7_1 ((rd_T103 l0 x1_1).f1) [.string ((rd_T103 l0 x1_1).f1)] (fun _ => True) (fun _ => False) rfl rfl ?aP (fun _ hk => hk.elim) ?aF ?aO ?aB ?aS ?aL ?_; (case aP => exact rfl); (case aB => exact (by repeat (first | (with_reducible first | exact HB.out | apply below_alloc | apply pw_below_drewN | apply below_drew1) | exact HB.out))); (case aF => exact (fun _ _ => trivial)); (case aO => exact (by (with_reducible repeat (first | apply Kd.R_alloc | apply Kd.R_drewN | apply Kd.R_drew)); exact HO_7.out)); (case aS => exact (below_size (by repeat (first | (with_reducible first | exact HB.out | apply below_alloc | apply pw_below_drewN | apply below_drew1) | exact HB.out)))); (case aL => have := LMc11.out; omega); intro v210 w19 ho hb hg hat; rw [← Ny209.out] at ho; have n0_ := Aside0.mk (hb); have n1_ := Aside0.mk (ho); clear HB; clear HO_7; have HB := n0_; have HO211 := n1_; clear n0_ n1_; clear ho hb hg hat; have p212 : 0 ≤ ((ji14) : Int) := of_decide_eq_true (by first | (with_reducible assumption) | assumption); have q212 : (ji14) < (l0.length : Int) := of_decide_eq_true (by first | (with_reducible assumption) | assumption); obtain ⟨ad212, e212, hx212_0, hx212_1, hx212_2⟩ := at_T103 HR0.out (ji14) p212 q212; obtain rfl : ad208 = ad212 := (by injection e212); replace hx212_0 := (HB.out.cell (World.block_lt_of_cell? w _ hx212_0)).trans hx212_0; replace hx212_1 := (HB.out.cell (World.block_lt_of_cell? w _ hx212_1)).trans hx212_1; replace hx212_2 := (HB.out.cell (World.block_lt_of_cell? w _ hx212_2)).trans hx212_2; replace p212 := eq_true p212; replace q212 := eq_true q212; have p213 : 0 ≤ ((ji14) : Int) := of_decide_eq_true (by first | (with_reducible assumption) | assumption); have q213 : (ji14) < (l0.length : Int) := of_decide_eq_true (by first | (with_reducible assumption) | assumption); obtain ⟨ad213, e213, hx213_0, hx213_1, hx213_2⟩ := at_T103 HR0.out (ji14) p213 q213; obtain rfl : ad208 = ad213 := (by injection e213); replace hx213_0 := (HB.out.cell (World.block_lt_of_cell? w _ hx213_0)).trans hx213_0; replace hx213_1 := (HB.out.cell (World.block_lt_of_cell? w _ hx213_1)).trans hx213_1; replace hx213_2 := (HB.out.cell (World.block_lt_of_cell? w _ hx213_2)).trans hx213_2; replace p213 := eq_true p213; replace q213 := eq_true q213))
                            go_roundg kj2
                            case measure => have := HK1.out; have := HJ2.out; omega
                            case rel => exact ⟨(wrap64 ((ji14) + 1)), (y209), (by first | rfl | (simp; done) | (simp only [← hji14] <;> (first | rfl | simp)) | (simp [*]; done)), H', ⟨by have := HK1.out; have := HJ2.out; omega⟩, ⟨by (with_reducible repeat (first | apply Kd.R_alloc | apply Kd.R_drewN | apply Kd.R_drew)); exact HO211.out⟩, ⟨by repeat (first | (with_reducible first | exact HB.out | apply below_alloc | apply pw_below_drewN | apply below_drew1) | exact HB.out)⟩⟩
                          · rw [if_neg c18] at H
                            have c18b0 : (((rd_T103 l0 (ji14)).f1).toList == ([46] : List UInt8)) = false := beq_eq_false_iff_ne.mpr c18
                            have c18b1 : (((rd_T103 l0 (ji14)).f1).toList != ([46] : List UInt8)) = true := bne_iff_ne.mpr c18
                            simp only [Option.some.injEq, Prod.mk.injEq] at H
                            obtain ⟨rfl, rfl, rfl⟩ := H
                            have p208 : 0 ≤ (x1_1 : Int) := of_decide_eq_true (by first | (with_reducible assumption) | assumption)
                            have q208 : x1_1 < (l0.length : Int) := of_decide_eq_true (by first | (with_reducible assumption) | assumption)
                            obtain ⟨ad208, e208, hx208_0, hx208_1, hx208_2⟩ := at_T103 HR0.out x1_1 p208 q208
                            cases e208
                            replace hx208_0 := (HB.out.cell (World.block_lt_of_cell? w _ hx208_0)).trans hx208_0
                            replace hx208_1 := (HB.out.cell (World.block_lt_of_cell? w _ hx208_1)).trans hx208_1
                            replace hx208_2 := (HB.out.cell (World.block_lt_of_cell? w _ hx208_2)).trans hx208_2
                            replace p208 := eq_true p208
                            replace q208 := eq_true q208
                            go_wp2_with (first | ((with_reducible refine gateB (b := .append) (xs := #[.tmp 29, .tmp 35]) rfl ?_); at_builtin; refine Kd.R_append Kd.string (w0 := w) w.heap.size rfl (.tmp 29) (.tmp 35) 83 9 (.string ⟨#[]⟩) 16 rfl Tryd.underlying83 info9 rfl (by decide) (by omega) u7 x7_1 ((rd_T103 l0 x1_1).f1) [.string ((rd_T103 l0 x1_1).f1)] (fun _ => True) (fun _ => False) rfl rfl ?aP (fun _ hk => hk.elim) ?aF ?aO ?aB ?aS ?aL ?_; (case aP => exact rfl); (case aB => exact (by repeat (first | (with_reducible first | exact HB.out | apply below_alloc | apply pw_below_drewN | apply below_drew1) | exact HB.out))); (case aF => exact (fun _ _ => trivial)); (case aO => exact (by (with_reducible repeat (first | apply Kd.R_alloc | apply Kd.R_drewN | apply Kd.R_drew)); exact HO_7.out)); (case aS => exact (below_size (by repeat (first | (with_reducible first | exact HB.out | apply below_alloc | apply pw_below_drewN | apply below_drew1) | exact HB.out)))); (case aL => have := LMc11.out; omega); intro v210 w20 ho hb hg hat; rw [← Ny209.out] at ho; have n0_ := Aside0.mk (hb); have n1_ := Aside0.mk (ho); clear HB; clear HO_7; have HB := n0_; have HO211 := n1_; clear n0_ n1_; clear ho hb hg hat; have p212 : 0 ≤ ((ji14) : Int) := of_decide_eq_true (by first | (with_reducible assumption) | assumption); have q212 : (ji14) < (l0.length : Int) := of_decide_eq_true (by first | (with_reducible assumption) | assumption); obtain ⟨ad212, e212, hx212_0, hx212_1, hx212_2⟩ := at_T103 HR0.out (ji14) p212 q212; obtain rfl : ad208 = ad212 := (by injection e212); replace hx212_0 := (HB.out.cell (World.block_lt_of_cell? w _ hx212_0)).trans hx212_0; replace hx212_1 := (HB.out.cell (World.block_lt_of_cell? w _ hx212_1)).trans hx212_1; replace hx212_2 := (HB.out.cell (World.block_lt_of_cell? w _ hx212_2)).trans hx212_2; replace p212 := eq_true p212; replace q212 := eq_true q212; have p213 : 0 ≤ ((ji14) : Int) := of_decide_eq_true (by first | (with_reducible assumption) | assumption); have q213 : (ji14) < (l0.length : Int) := of_decide_eq_true (by first | (with_reducible assumption) | assumption); obtain ⟨ad213, e213, hx213_0, hx213_1, hx213_2⟩ := at_T103 HR0.out (ji14) p213 q213; obtain rfl : ad208 = ad213 := (by injection e213); replace hx213_0 := (HB.out.cell (World.block_lt_of_cell? w _ hx213_0)).trans hx213_0; replace hx213_1 := (HB.out.cell (World.block_lt_of_cell? w _ hx213_1)).trans hx213_1; replace hx213_2 := (HB.out.cell (World.block_lt_of_cell? w _ hx213_2)).trans hx213_2; replace p213 := eq_true p213; replace q213 := eq_true q213))
                            go_ret3
                            exact ⟨_, by first | rfl | (simp [errW_none, errW_some] <;> rfl) | (simp only [← hji14]; first | rfl | (simp [errW_none, errW_some] <;> rfl)) | (simp [*, errW_none, errW_some] <;> rfl), by (with_reducible repeat (first | apply Kd.R_alloc | apply Kd.R_drewN | apply Kd.R_drew)); exact HO211.out, by repeat (first | (with_reducible first | exact HB.out | apply below_alloc | apply pw_below_drewN | apply below_drew1) | exact HB.out)⟩
                        · rw [if_neg c17] at H
                          have c17b0 : (((rd_T103 l0 (ji14)).f0) == 4) = false := beq_eq_false_iff_ne.mpr c17
                          have c17b1 : (((rd_T103 l0 (ji14)).f0) != 4) = true := bne_iff_ne.mpr c17
                          simp only [Option.some.injEq, Prod.mk.injEq] at H
                          obtain ⟨rfl, rfl, rfl⟩ := H
                          have p208 : 0 ≤ (x1_1 : Int) := of_decide_eq_true (by first | (with_reducible assumption) | assumption)
                          have q208 : x1_1 < (l0.length : Int) := of_decide_eq_true (by first | (with_reducible assumption) | assumption)
                          obtain ⟨ad208, e208, hx208_0, hx208_1, hx208_2⟩ := at_T103 HR0.out x1_1 p208 q208
                          cases e208
                          replace hx208_0 := (HB.out.cell (World.block_lt_of_cell? w _ hx208_0)).trans hx208_0
                          replace hx208_1 := (HB.out.cell (World.block_lt_of_cell? w _ hx208_1)).trans hx208_1
                          replace hx208_2 := (HB.out.cell (World.block_lt_of_cell? w _ hx208_2)).trans hx208_2
                          replace p208 := eq_true p208
                          replace q208 := eq_true q208
                          go_wp2_with (first | ((with_reducible refine gateB (b := .append) (xs := #[.tmp 29, .tmp 35]) rfl ?_); at_builtin; refine Kd.R_append Kd.string (w0 := w) w.heap.size rfl (.tmp 29) (.tmp 35) 83 9 (.string ⟨#[]⟩) 16 rfl Tryd.underlying83 info9 rfl (by decide) (by omega) u7 x7_1 ((rd_T103 l0 x1_1).f1) [.string ((rd_T103 l0 x1_1).f1)] (fun _ => True) (fun _ => False) rfl rfl ?aP (fun _ hk => hk.elim) ?aF ?aO ?aB ?aS ?aL ?_; (case aP => exact rfl); (case aB => exact (by repeat (first | (with_reducible first | exact HB.out | apply below_alloc | apply pw_below_drewN | apply below_drew1) | exact HB.out))); (case aF => exact (fun _ _ => trivial)); (case aO => exact (by (with_reducible repeat (first | apply Kd.R_alloc | apply Kd.R_drewN | apply Kd.R_drew)); exact HO_7.out)); (case aS => exact (below_size (by repeat (first | (with_reducible first | exact HB.out | apply below_alloc | apply pw_below_drewN | apply below_drew1) | exact HB.out)))); (case aL => have := LMc11.out; omega); intro v210 w21 ho hb hg hat; rw [← Ny209.out] at ho; have n0_ := Aside0.mk (hb); have n1_ := Aside0.mk (ho); clear HB; clear HO_7; have HB := n0_; have HO211 := n1_; clear n0_ n1_; clear ho hb hg hat; have p212 : 0 ≤ ((ji14) : Int) := of_decide_eq_true (by first | (with_reducible assumption) | assumption); have q212 : (ji14) < (l0.length : Int) := of_decide_eq_true (by first | (with_reducible assumption) | assumption); obtain ⟨ad212, e212, hx212_0, hx212_1, hx212_2⟩ := at_T103 HR0.out (ji14) p212 q212; obtain rfl : ad208 = ad212 := (by injection e212); replace hx212_0 := (HB.out.cell (World.block_lt_of_cell? w _ hx212_0)).trans hx212_0; replace hx212_1 := (HB.out.cell (World.block_lt_of_cell? w _ hx212_1)).trans hx212_1; replace hx212_2 := (HB.out.cell (World.block_lt_of_cell? w _ hx212_2)).trans hx212_2; replace p212 := eq_true p212; replace q212 := eq_true q212))
                          go_ret3
                          exact ⟨_, by first | rfl | (simp [errW_none, errW_some] <;> rfl) | (simp only [← hji14]; first | rfl | (simp [errW_none, errW_some] <;> rfl)) | (simp [*, errW_none, errW_some] <;> rfl), by (with_reducible repeat (first | apply Kd.R_alloc | apply Kd.R_drewN | apply Kd.R_drew)); exact HO211.out, by repeat (first | (with_reducible first | exact HB.out | apply below_alloc | apply pw_below_drewN | apply below_drew1) | exact HB.out)⟩
                      · rw [if_neg c16] at H
                        exact absurd H (by simp)
                    · rw [if_neg c15] at H
                      exact absurd H (by simp)
                · rw [if_neg c11] at H
                  exact absurd H (by simp)
              · rw [if_neg c10] at H
                exact absurd H (by simp)
            · rw [if_neg c9] at H
              exact absurd H (by simp)

end Go.Proofs.YtejpjclbeogajaaDoorP.Pf
