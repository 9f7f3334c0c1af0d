/-
  A schema in small numbers, and the schema that is made of it.
-/
import Derived.Test.YtejpjclbeogajaaDoorHandNum
namespace Go.Proofs.YtejpjclbeogajaaDoor
open Go.RowKit
set_option linter.unusedVariables false
set_option linter.unusedSimpArgs false

structure PField where
  kind : Int
  lists : Int
  ref : Int
  name : Int
  df : Int
instance : Inhabited PField := ⟨⟨0, 0, 0, 0, 0⟩⟩
structure PlanD where
  enums : List Int
  structs : List (List PField)
  root : Int
  tree : Bool

def byteOk (n : Int) : Prop := 0 ≤ n ∧ n < 256
def PField.ok (f : PField) : Prop := byteOk f.kind ∧ byteOk f.lists ∧ byteOk f.ref ∧ byteOk f.name ∧ 0 ≤ f.df ∧ f.df < 18446744073709551616

def pfget (l : List PField) (i : Nat) : PField := l[i]!
def psget (l : List (List PField)) (i : Nat) : List PField := l[i]!
theorem pfget_mem (l : List PField) (i : Nat) (h : i < l.length) : pfget l i ∈ l := by unfold pfget; rw [getElem!_pos l i h]; exact List.getElem_mem h
theorem psget_mem (l : List (List PField)) (i : Nat) (h : i < l.length) : psget l i ∈ l := by unfold psget; rw [getElem!_pos l i h]; exact List.getElem_mem h

/-- a struct's fields in small numbers, from the head of a row on -/
def PFieldsAt (w : World) (b o : Nat) (fs : List PField) : Prop := ∀ i, i < fs.length →
  w.cell? ⟨b, o + i * 5, none⟩ = some (.int .u8 (pfget fs i).kind) ∧ w.cell? ⟨b, o + i * 5 + 1, none⟩ = some (.int .u8 (pfget fs i).lists) ∧
  w.cell? ⟨b, o + i * 5 + 2, none⟩ = some (.int .u8 (pfget fs i).ref) ∧ w.cell? ⟨b, o + i * 5 + 3, none⟩ = some (.int .u8 (pfget fs i).name) ∧
  w.cell? ⟨b, o + i * 5 + 4, none⟩ = some (.int .u64 (pfget fs i).df)

def PListAt (w : World) (v : Value) (fs : List PField) : Prop := ∃ A c, v = .slice A fs.length c ∧ (∀ f ∈ fs, f.ok) ∧ (0 < fs.length → ∃ b o, A = some ⟨b, o, none⟩ ∧ b < w.heap.size ∧ PFieldsAt w b o fs)

/-- the plan, as it lies in memory -/
structure PlanAt (w : World) (v : Value) (p : PlanD) : Prop where
  val : ∃ A ce B cs, v = .agg #[.slice A p.enums.length ce, .slice B p.structs.length cs, .int .u8 p.root, .bool p.tree] ∧
    (0 < p.enums.length → ∃ b o, A = some ⟨b, o, none⟩ ∧ b < w.heap.size ∧ ∀ i, i < p.enums.length → w.cell? ⟨b, o + i, none⟩ = some (.int .u8 (iget p.enums i))) ∧
    (0 < p.structs.length → ∃ b o, B = some ⟨b, o, none⟩ ∧ b < w.heap.size ∧ ∀ i, i < p.structs.length → ∃ u, w.cell? ⟨b, o + i, none⟩ = some u ∧ PListAt w u (psget p.structs i))
  root : byteOk p.root
  enums : ∀ n ∈ p.enums, byteOk n

structure FRecord where
  name : ByteArray
  fields : List FField
instance : Inhabited FRecord := ⟨⟨ByteArray.empty, []⟩⟩
structure FChoice where
  name : ByteArray
  names : List ByteArray
instance : Inhabited FChoice := ⟨⟨ByteArray.empty, []⟩⟩
structure FSchema where
  structs : List FRecord
  enums : List FChoice
  root : Int

def rget (l : List FRecord) (i : Nat) : FRecord := l[i]!
def cget (l : List FChoice) (i : Nat) : FChoice := l[i]!
def sget (l : List ByteArray) (i : Nat) : ByteArray := l[i]!

/-- one sign behind a head -/
def nameOf (head : Int) (i : Nat) : ByteArray := bytesStr [head] ++ bytesStr [97 + (i : Int)]
def valName (k : Nat) : ByteArray := bytesStr [118] ++ bytesStr [97 + (k : Int) % 26, 97 + (k : Int) / 26]
def valCount (n : Int) : Nat := (n % 32).toNat + 1
def madeNames (n : Int) : List ByteArray := (List.range (valCount n)).map valName
def madeChoice (enums : List Int) (i : Nat) : FChoice := ⟨nameOf 69 i, madeNames (iget enums i)⟩

/-- a field's kind, in three steps -/
def kind0 (f : PField) : Int := f.kind % 13 + 1
def kind1 (p : PlanD) (f : PField) : Int := if kind0 f = 10 ∧ p.enums.length = 0 then 7 else kind0 f
def kind2 (p : PlanD) (i : Nat) (f : PField) : Int := if kind1 p f = 13 ∧ p.tree = true ∧ i + 1 = p.structs.length then 11 else kind1 p f
def ref2 (p : PlanD) (i : Nat) (f : PField) : Int :=
  if kind2 p i f = 10 then f.ref % (p.enums.length : Int)
  else if kind2 p i f = 13 then (if p.tree = true then (i : Int) + 1 + f.ref % ((p.structs.length : Int) - i - 1) else f.ref % (p.structs.length : Int)) else 0
def madeField (p : PlanD) (i k : Nat) (f : PField) : FField :=
  { name := labelOf f.name k, kind := kind2 p i f, ref := ref2 p i f, lists := f.lists % 4,
    df := if isNumB (kind2 p i f) (f.lists % 4) = true then numberOf (valCount (iget p.enums (ref2 p i f).toNat) : Int) (kind2 p i f) f.df else 0 }
def madeFields (p : PlanD) (i : Nat) (fs : List PField) : List FField := (List.range fs.length).map fun k => madeField p i k (pfget fs k)
def madeRecord (p : PlanD) (i : Nat) : FRecord := ⟨nameOf 83 i, madeFields p i (psget p.structs i)⟩
def madeP (p : PlanD) : FSchema :=
  { structs := (List.range p.structs.length).map (madeRecord p), enums := (List.range p.enums.length).map (madeChoice p.enums), root := p.root % (p.structs.length : Int) }
/-- the plan makes a schema -/
def planOk (p : PlanD) : Prop := 1 ≤ p.structs.length ∧ p.structs.length ≤ 16 ∧ p.enums.length ≤ 8 ∧ ∀ l ∈ p.structs, 1 ≤ l.length ∧ l.length ≤ 16

/-! ### a schema in memory -/
def StrsRow (w : World) (b : Nat) (names : List ByteArray) : Prop := ∀ j, j < names.length → w.cell? ⟨b, j, none⟩ = some (.string (sget names j))
def FieldsRow (w : World) (b : Nat) (fs : List FField) : Prop := FieldsAt w b 0 fs

/-- what hangs on one block alone -/
def LocalTo (K : World → Nat → Prop) : Prop := ∀ w w' b, w'.heap[b]? = w.heap[b]? → K w b → K w' b
theorem strs_local (names : List ByteArray) : LocalTo (fun w b => StrsRow w b names) := fun w w' b e h j hj => by
  rw [World.cell?_of_block (w := w) (a := ⟨b, j, none⟩) e]; exact h j hj
theorem fields_local (fs : List FField) : LocalTo (fun w b => FieldsRow w b fs) := fun w w' b e h => FieldsAt.kept h e

/-- a row that is finished, in a block of its own -/
def Held (K : World → Nat → Prop) (w : World) (O : Nat) (row : Option Nat) (n : Nat) (v : Value) : Prop :=
  ∃ b c, (v = .slice (some ⟨b, 0, none⟩) n c ∧ n ≤ c) ∧ b < w.heap.size ∧ O < b ∧ some b ≠ row ∧ K w b

theorem Held.below {K : World → Nat → Prop} (hK : LocalTo K) {w w' : World} {O : Nat} {row : Option Nat} {n : Nat} {v : Value} (h : Held K w O row n v) (hb : Below w.heap.size w w') : Held K w' O row n v := by
  obtain ⟨b, c, hv, hl, hO, hr, hk⟩ := h
  exact ⟨b, c, hv, Nat.lt_of_lt_of_le hl hb.size, hO, hr, hK w w' b (hb.block b hl) hk⟩

end Go.Proofs.YtejpjclbeogajaaDoor
