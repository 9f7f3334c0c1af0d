/-
  How structs of a schema lie in memory: fields, one behind the other.
-/
import Derived.Test.YtejpjclbeogajaaDoorBase
namespace Go.Proofs.YtejpjclbeogajaaDoor
open Go.RowKit
set_option linter.unusedVariables false
set_option linter.unusedSimpArgs false

structure FField where
  name : ByteArray
  kind : Int
  ref : Int
  lists : Int
  df : Int

instance : Inhabited FField := ⟨⟨ByteArray.empty, 0, 0, 0, 0⟩⟩

def FField.cells (f : FField) : List Value := [.string f.name, .int .u8 f.kind, .int .i64 f.ref, .int .i64 f.lists, .int .u64 f.df]

/-- a field's kind is a byte -/
def FField.ok (f : FField) : Prop := 0 ≤ f.kind ∧ f.kind < 256

def fget (fs : List FField) (i : Nat) : FField := fs[i]!
theorem fget_eq (fs : List FField) (i : Nat) (h : i < fs.length) : fget fs i = fs[i] := by simp [fget, h]
theorem fget_mem (fs : List FField) (i : Nat) (h : i < fs.length) : fget fs i ∈ fs := by rw [fget_eq fs i h]; exact List.getElem_mem h

/-- fields lie from an offset of a block on: five cells each -/
def FieldsAt (w : World) (b o : Nat) (fs : List FField) : Prop := ∀ i, i < fs.length →
  w.cell? ⟨b, o + i * 5, none⟩ = some (.string (fget fs i).name) ∧ w.cell? ⟨b, o + i * 5 + 1, none⟩ = some (.int .u8 (fget fs i).kind) ∧
  w.cell? ⟨b, o + i * 5 + 2, none⟩ = some (.int .i64 (fget fs i).ref) ∧ w.cell? ⟨b, o + i * 5 + 3, none⟩ = some (.int .i64 (fget fs i).lists) ∧
  w.cell? ⟨b, o + i * 5 + 4, none⟩ = some (.int .u64 (fget fs i).df)

theorem FieldsAt.kept {w w' : World} {b o : Nat} {fs : List FField} (h : FieldsAt w b o fs) (e : w'.heap[b]? = w.heap[b]?) : FieldsAt w' b o fs := by
  intro i hi
  have hk : ∀ j, w'.cell? ⟨b, j, none⟩ = w.cell? ⟨b, j, none⟩ := fun j => World.cell?_of_block (w := w) (a := ⟨b, j, none⟩) e
  simp only [hk]
  exact h i hi

theorem FieldsAt.below {w w' : World} {b o B : Nat} {fs : List FField} (h : FieldsAt w b o fs) (hb : Below B w w') (hB : b < B) : FieldsAt w' b o fs := h.kept (hb.block b hB)

/-! ### a block that is known whole -/
theorem blk_cell {w : World} {k : Nat} {cs : Array Value} {T : TypeId} {f : Nat × Nat} (h : w.heap[k]? = some (.cells cs T f)) (j : Nat) : w.cell? ⟨k, j, none⟩ = cs[j]? := by simp [World.cell?, h]
theorem blk_frozen {w : World} {k : Nat} {cs : Array Value} {T : TypeId} (h : w.heap[k]? = some (.cells cs T (0, 0))) (j : Nat) : w.frozen? ⟨k, j, none⟩ = false := by simp [World.frozen?, h]
theorem blk_lt {w : World} {k : Nat} {o : Obj} (h : w.heap[k]? = some o) : k < w.heap.size := (Array.getElem?_eq_some_iff.1 h).1
theorem blk_set {w : World} {k : Nat} {cs : Array Value} {T : TypeId} {f : Nat × Nat} (h : w.heap[k]? = some (.cells cs T f)) (j : Nat) (v : Value) : (w.setCell ⟨k, j, none⟩ v).heap[k]? = some (.cells (cs.setIfInBounds j v) T f) := by
  simp [World.setCell, Array.getElem?_modify, h]
theorem blk_set_ne {w : World} {k : Nat} {o : Obj} (h : w.heap[k]? = some o) (a : Addr) (hne : k ≠ a.block) (v : Value) : (w.setCell a v).heap[k]? = some o := by
  rw [Below.heap_setCell _ _ _ _ hne]; exact h
theorem blk_alloc {w : World} {k : Nat} {o : Obj} (h : w.heap[k]? = some o) (o' : Obj) : (w.alloc o').heap[k]? = some o := by
  rw [Below.heap_alloc _ _ _ (blk_lt h)]; exact h
theorem blk_new (w : World) (o : Obj) : (w.alloc o).heap[w.heap.size]? = some o := heap_alloc_new w o
theorem blk_below {w w' : World} {B k : Nat} {o : Obj} (h : w.heap[k]? = some o) (hb : Below B w w') (hk : k < B) : w'.heap[k]? = some o := (hb.block k hk).trans h

theorem ints_get {xs : List Int} {k : IntKind} {i : Nat} (h : i < xs.length) : ((xs.map (Value.int k)).toArray)[i]? = some (.int k (xs[i]!)) := by
  simp [h]
theorem ints_put (xs : List Int) (k : IntKind) (i : Nat) (v : Int) : ((xs.map (Value.int k)).toArray).setIfInBounds i (.int k v) = ((xs.set i v).map (Value.int k)).toArray := by
  simp [List.map_set]
theorem made_ints (n : Nat) : (madeCells #[Value.int .i64 0] n).toList = (List.replicate n (0 : Int)).map (Value.int .i64) := by
  apply List.ext_getElem
  · simp [madeCells]
  · intro i h1 h2
    simp [madeCells, Nat.mod_one]

/-- a row that was made whole, as a block -/
theorem made_block {w : World} {base g : Nat} {e : TypeId} {n : Nat} {cs : List Value} (h : w.ownsRow base e 1 (.slice (some ⟨g, 0, none⟩) n n) n cs) : w.heap[g]? = some (.cells cs.toArray e (0, 0)) := by
  rcases h.2 with ⟨h1, _⟩ | ⟨g', cap, cur, hv, _, hg, _, _, hs, ht⟩
  · cases h1
  · simp only [Value.slice.injEq, Option.some.injEq, Addr.mk.injEq, true_and, and_true] at hv
    obtain ⟨rfl, rfl⟩ := hv
    rw [hg]
    congr 2
    apply Array.ext'
    rw [← ht, List.take_of_length_le (by simp [hs])]

end Go.Proofs.YtejpjclbeogajaaDoor
