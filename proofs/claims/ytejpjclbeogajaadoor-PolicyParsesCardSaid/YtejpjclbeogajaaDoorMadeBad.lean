/-
  transomhand05.Made: the schema that a plan makes.
-/
import Derived.Test.YtejpjclbeogajaaDoorPlan
namespace Go.Proofs.YtejpjclbeogajaaDoor
open Go.RowKit
set_option linter.unusedVariables false
set_option linter.unusedSimpArgs false

/-- a row of structs of two cells: a name, and a row that is finished -/
def PairsAt {α : Type} (nm : α → ByteArray) (K : α → World → Nat → Prop) (len : α → Nat) (get : Nat → α) (w : World) (v : Value) (n : Nat) : Prop :=
  ∃ A c, (v = .slice A n c ∧ n ≤ c) ∧ (0 < n → ∃ b o, A = some ⟨b, o, none⟩ ∧ b < w.heap.size ∧ ∀ i, i < n → ∃ b' c', w.cell? ⟨b, o + i * 2, none⟩ = some (.string (nm (get i))) ∧
    w.cell? ⟨b, o + i * 2 + 1, none⟩ = some (.slice (some ⟨b', 0, none⟩) (len (get i)) c') ∧ (b' < w.heap.size ∧ len (get i) ≤ c') ∧ K (get i) w b')

def RecsAt (w : World) (v : Value) (rs : List FRecord) : Prop := PairsAt FRecord.name (fun r w b => FieldsRow w b r.fields) (fun r => r.fields.length) (rget rs) w v rs.length
def ChoicesAt (w : World) (v : Value) (cs : List FChoice) : Prop := PairsAt FChoice.name (fun c w b => StrsRow w b c.names) (fun c => c.names.length) (cget cs) w v cs.length
def SchemaAt (w : World) (v : Value) (s : FSchema) : Prop := ∃ vS vE, v = .agg #[vS, vE, .int .i64 s.root] ∧ RecsAt w vS s.structs ∧ ChoicesAt w vE s.enums

def MadePost (w : World) (p : PlanD) (e : Ending) (w' : World) : Prop :=
  Below w.heap.size w w' ∧ ((¬ planOk p ∧ e = .returned (.tuple #[.agg #[.slice none 0 0, .slice none 0 0, .int .i64 0], .bool false])) ∨
    (planOk p ∧ ∃ v, e = .returned (.tuple #[v, .bool true]) ∧ SchemaAt w' v (madeP p)))

theorem info_str : (Tryd.prog.info? 9).map (fun i => (i.zero, i.size, i.bytes)) = some (some (.string ⟨#[]⟩), 1, 16) := by kernel_rfl
theorem info_choice : (Tryd.prog.info? 85).map (fun i => (i.zero, i.size, i.bytes)) = some (some (.agg #[.string ⟨#[]⟩, .slice none 0 0]), 2, 40) := by kernel_rfl
theorem info_record : (Tryd.prog.info? 82).map (fun i => (i.zero, i.size, i.bytes)) = some (some (.agg #[.string ⟨#[]⟩, .slice none 0 0]), 2, 40) := by kernel_rfl
theorem info_sfield : (Tryd.prog.info? 79).map (fun i => (i.zero, i.size, i.bytes)) = some (some (.agg #[.string ⟨#[]⟩, .int .u8 0, .int .i64 0, .int .i64 0, .int .u64 0]), 5, 48) := by kernel_rfl

/-- the world while the enums are made -/
structure EInv (w wr : World) (pv : Array Value) (root : Int) (vE : Value) (en : List Int) (i O : Nat) (vf : Nat → Value) : Prop where
  below : Below w.heap.size w wr
  p : wr.heap[w.heap.size]? = some (.cells pv 25 (0, 0))
  r : wr.heap[w.heap.size + 1]? = some (.cells #[.slice none 0 0, .slice none 0 0, .int .i64 0] 32 (0, 0))
  o : wr.heap[O]? = some (.cells #[.slice none 0 0, vE, .int .i64 root] 32 (0, 0))
  own : wr.ownsRow (O + 1) 85 2 vE i ((List.range i).flatMap fun j => [.string (nameOf 69 j), vf j])
  held : ∀ j, j < i → Held (fun w b => StrsRow w b (madeNames (iget en j))) wr O vE.ownBlock (madeNames (iget en j)).length (vf j)
  d : w.heap.size + 1 < O

set_option maxHeartbeats 1000000 in
set_option maxRecDepth 100000 in
theorem made_bad (v : Value) (p : PlanD) (w : World) (hp : PlanAt w v p) (hb : p.structs.length < 1 ∨ 16 < p.structs.length ∨ 8 < p.enums.length) :
    Calls Tryd.prog 8 #[v] w (MadePost w p) := by
  obtain ⟨⟨A, ce, B, cs, rfl, hE, hS⟩, hroot, hen⟩ := hp
  have hbad : ¬ planOk p := fun h => by have := h.1; have := h.2.1; have := h.2.2.1; omega
  by_cases h1 : p.structs.length < 1
  · have hd : decide ((p.structs.length : Int) < 1) = true := decide_eq_true (by omega)
    clear hb
    go_enter Tryd.func8, Tryd.ntmps8
    go_wp2
    refine bodyPost_ret (v := .tuple #[.agg #[.slice none 0 0, .slice none 0 0, .int .i64 0], .bool false]) (by simp [results, Tryd.results8, go_sem]) rfl ⟨by (repeat' (first | (with_reducible exact Below.refl _ _) | (with_reducible assumption) | (with_reducible refine Below.alloc ?_ ?_ _) | (with_reducible refine Below.drew ?_) | (with_reducible refine Below.setCell ?_ ?_ _) | (with_reducible refine Below.trans ?_ (Below.mono (by assumption) ?_)) | go_size)), .inl ⟨hbad, rfl⟩⟩
  have hd1 : decide ((p.structs.length : Int) < 1) = false := decide_eq_false (by omega)
  by_cases h2 : 16 < p.structs.length
  · have hd2 : decide (16 < (p.structs.length : Int)) = true := decide_eq_true (by omega)
    clear hb
    go_enter Tryd.func8, Tryd.ntmps8
    go_wp2
    refine bodyPost_ret (v := .tuple #[.agg #[.slice none 0 0, .slice none 0 0, .int .i64 0], .bool false]) (by simp [results, Tryd.results8, go_sem]) rfl ⟨by (repeat' (first | (with_reducible exact Below.refl _ _) | (with_reducible assumption) | (with_reducible refine Below.alloc ?_ ?_ _) | (with_reducible refine Below.drew ?_) | (with_reducible refine Below.setCell ?_ ?_ _) | (with_reducible refine Below.trans ?_ (Below.mono (by assumption) ?_)) | go_size)), .inl ⟨hbad, rfl⟩⟩
  have hd2 : decide (16 < (p.structs.length : Int)) = false := decide_eq_false (by omega)
  have hd3 : decide (8 < (p.enums.length : Int)) = true := decide_eq_true (by omega)
  clear hb
  go_enter Tryd.func8, Tryd.ntmps8
  go_wp2
  refine bodyPost_ret (v := .tuple #[.agg #[.slice none 0 0, .slice none 0 0, .int .i64 0], .bool false]) (by simp [results, Tryd.results8, go_sem]) rfl ⟨by (repeat' (first | (with_reducible exact Below.refl _ _) | (with_reducible assumption) | (with_reducible refine Below.alloc ?_ ?_ _) | (with_reducible refine Below.drew ?_) | (with_reducible refine Below.setCell ?_ ?_ _) | (with_reducible refine Below.trans ?_ (Below.mono (by assumption) ?_)) | go_size)), .inl ⟨hbad, rfl⟩⟩

end Go.Proofs.YtejpjclbeogajaaDoor
