/-
  Layer 5: what is written, as a schema, or its fault: a plain function of schema.Make.
-/
import Derived.Test.YtgoaiokpnifhfaaRawRow
import Derived.Test.YtgoaiokpnifhfaaBasicP
import Derived.Test.YtgoaiokpnifhfaaPlan
import Derived.Test.YtgoaiokpnifhfaaLexN
namespace Go.Proofs.Ytgoaiokpnifhfaa
open Go.RowKit
set_option linter.unusedVariables false
set_option linter.unusedSimpArgs false

/-- the second of two things that have one name -/
def dupK {α : Type} (l : List α) (nm : α → ByteArray) (ps : α → Nat) (k : Nat) : Option (Int × Nat) :=
  match l[k]? with
  | some a => if (l.take k).any (fun x => eqS (nm x) (nm a)) = true then some (13, ps a) else none
  | none => none
def dupB {α : Type} (l : List α) (nm : α → ByteArray) (ps : α → Nat) : Option (Int × Nat) := firstBad l.length (dupK l nm ps)
/-- an enum's or a struct's fault -/
def headBad {α : Type} (used : List ByteArray) (nm : ByteArray) (pos : Nat) (many : Bool) (l : List α) (lnm : α → ByteArray) (lps : α → Nat) : Option (Int × Nat) :=
  if takenB used nm = true then some (13, pos) else if many = true then some (16, pos) else dupB l lnm lps
def usedE (r : RawD) (i : Nat) : List ByteArray := (r.enums.take i).map RChoice.name
def usedS (r : RawD) (i : Nat) : List ByteArray := r.enums.map RChoice.name ++ (r.structs.take i).map RRec.name
def manyE (r : RawD) (i : Nat) : Bool := decide (8 ≤ i) || decide ((cx r i).names.length = 0) || decide (32 < (cx r i).names.length)
def manyS (r : RawD) (i : Nat) : Bool := decide (16 ≤ i) || decide ((rx r i).fields.length = 0) || decide (16 < (rx r i).fields.length)
def badE (r : RawD) (i : Nat) : Option (Int × Nat) := headBad (usedE r i) (cx r i).name (cx r i).pos (manyE r i) (cx r i).names Tok.text Tok.pos
def badS (r : RawD) (i : Nat) : Option (Int × Nat) := headBad (usedS r i) (rx r i).name (rx r i).pos (manyS r i) (rx r i).fields RField.name RField.pos
def namesI (r : RawD) : Option (Int × Nat) := match firstBad r.enums.length (badE r) with | some x => some x | none => firstBad r.structs.length (badS r)

/-! ### fields -/
def kindSign (k : Int) : Bool := decide (2 ≤ k) && decide (k ≤ 5)
def enumIx (r : RawD) (s : ByteArray) : Option Nat := firstIx r.enums.length fun i => eqS (cx r i).name s
def recIx (r : RawD) (s : ByteArray) : Option Nat := firstIx r.structs.length fun i => eqS (rx r i).name s
/-- a written type's kind, and its place -/
def typeI (r : RawD) (s : ByteArray) : Option (Int × Nat) :=
  if basicK s ≠ 0 then some ((basicK s : Int), 0) else match enumIx r s with | some i => some (10, i) | none => match recIx r s with | some i => some (13, i) | none => none
def cTrue : ByteArray := ⟨#[116, 114, 117, 101]⟩
def cFalse : ByteArray := ⟨#[102, 97, 108, 115, 101]⟩
def itemIx (r : RawD) (i : Nat) (s : ByteArray) : Option Nat := firstIx (cx r i).names.length fun k => eqS (((cx r i).names[k]?).getD tok0).text s
/-- a written default -/
def valueI (r : RawD) (k : Int) (rf lists : Nat) (d : Tok) : Option Int :=
  if 0 < lists then none
  else if k = 1 then (if d.kind = 1 then (if eqS d.text cTrue = true then some 1 else if eqS d.text cFalse = true then some 0 else none) else none)
  else if k = 10 then (if d.kind = 1 then Option.map (fun (i : Nat) => (i : Int)) (itemIx r rf d.text) else none)
  else if d.kind = 2 then numOf d.text (kindSize k) (kindSign k) else none
/-- a field, or its fault -/
def fieldI (r : RawD) (f : RField) : Except (Int × Nat) FField :=
  match typeI r f.ty.name with
  | none => .error (14, f.ty.pos)
  | some (k, rf) => if f.df.kind = 0 then .ok ⟨f.name, k, (rf : Int), (f.ty.lists : Int), 0⟩ else match valueI r k rf f.ty.lists f.df with
    | none => .error (15, f.df.pos)
    | some n => .ok ⟨f.name, k, (rf : Int), (f.ty.lists : Int), n⟩
def fieldB (r : RawD) (f : RField) : Option (Int × Nat) := match fieldI r f with | .error x => some x | .ok _ => none
def fieldO (r : RawD) (f : RField) : FField := match fieldI r f with | .error _ => ⟨⟨#[]⟩, 0, 0, 0, 0⟩ | .ok x => x
def recB (r : RawD) (i : Nat) : Option (Int × Nat) := firstBad (rx r i).fields.length fun k => fieldB r (fx (rx r i) k)
def recO (r : RawD) (x : RRec) : FRecord := ⟨x.name, x.fields.map (fieldO r)⟩
def choO (x : RChoice) : FChoice := ⟨x.name, x.names.map Tok.text⟩
def rootI (r : RawD) : Except (Int × Nat) Nat :=
  match r.roots with
  | [] => .error (17, 0)
  | [t] => match recIx r t.text with | some i => .ok i | none => .error (17, t.pos)
  | _ :: t :: _ => .error (13, t.pos)
def makeI (r : RawD) : Except (Int × Nat) FSchema :=
  match namesI r with
  | some x => .error x
  | none => match firstBad r.structs.length (recB r) with
    | some x => .error x
    | none => match rootI r with
      | .error x => .error x
      | .ok i => .ok ⟨r.structs.map (recO r), r.enums.map choO, (i : Int)⟩
/-- a schema's text -/
def readI (s : ByteArray) : Except (Int × Nat) FSchema := match parseI s with | .error x => .error x | .ok r => makeI r

end Go.Proofs.Ytgoaiokpnifhfaa
