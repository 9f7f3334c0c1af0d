/-
  schema.field: a field as it is written, or its fault.
-/
import Derived.Test.YtgoaiokpnifhfaaMkV
namespace Go.Proofs.Ytgoaiokpnifhfaa
open Go.RowKit
set_option linter.unusedVariables false
set_option linter.unusedSimpArgs false

/-- what a field comes to -/
structure FieldPost (o : Except (Int × Nat) FField) (w : World) (e : Ending) (w' : World) : Prop where
  ok : ∀ g, o = .ok g → e = .returned (.tuple #[.agg #[.string g.name, .int .u8 g.kind, .int .i64 g.ref, .int .i64 g.lists, .int .u64 g.df], .agg #[.int .i64 0, .int .i64 0]])
  err : ∀ c p, o = .error (c, p) → e = .returned (.tuple #[.agg #[.string ⟨#[]⟩, .int .u8 0, .int .i64 0, .int .i64 0, .int .u64 0], .agg #[.int .i64 c, .int .i64 (p : Int)]])
  below : Below w.heap.size w w'
theorem FieldPost.mk_ok {g : FField} {w w' : World} {e : Ending} (he : e = .returned (.tuple #[.agg #[.string g.name, .int .u8 g.kind, .int .i64 g.ref, .int .i64 g.lists, .int .u64 g.df], .agg #[.int .i64 0, .int .i64 0]])) (hb : Below w.heap.size w w') : FieldPost (.ok g) w e w' :=
  ⟨fun g' h => (by cases h; exact he), fun c p h => (by cases h), hb⟩
theorem FieldPost.mk_err {c : Int} {p : Nat} {w w' : World} {e : Ending} (he : e = .returned (.tuple #[.agg #[.string ⟨#[]⟩, .int .u8 0, .int .i64 0, .int .i64 0, .int .u64 0], .agg #[.int .i64 c, .int .i64 (p : Int)]])) (hb : Below w.heap.size w w') : FieldPost (.error (c, p)) w e w' :=
  ⟨fun g' h => (by cases h), fun c p h => (by cases h; exact he), hb⟩

/-- the call's own blocks -/
structure FdI (w0 : World) (S : Nat) (vR : Array Value) (f : RField) (k rf : Int) (w : World) : Prop where
  below : Below w0.heap.size w0 w
  b1 : w.heap[S]? = some (.cells vR 27 (0, 0))
  b2 : w.heap[S + 1]? = some (.cells (fldL f).toArray 43 (0, 0))
  b3 : w.heap[S + 1 + 1]? = some (.cells #[.string ⟨#[]⟩, .int .u8 0, .int .i64 0, .int .i64 0, .int .u64 0] 70 (0, 0))
  b4 : w.heap[S + 1 + 1 + 1]? = some (.cells #[.int .i64 0, .int .i64 0] 30 (0, 0))
  b5 : w.heap[S + 1 + 1 + 1 + 1]? = some (.cells #[.string f.name, .int .u8 k, .int .i64 rf, .int .i64 (f.ty.lists : Int), .int .u64 0] 70 (0, 0))
theorem FdI.run {w0 w w' : World} {S : Nat} {vR : Array Value} {f : RField} {k rf : Int} (h : FdI w0 S vR f k rf w) (hb : Below w.heap.size w w') : FdI w0 S vR f k rf w' :=
  ⟨h.below.trans (hb.mono h.below.size), blk_below h.b1 hb (blk_lt h.b1), blk_below h.b2 hb (blk_lt h.b2), blk_below h.b3 hb (blk_lt h.b3), blk_below h.b4 hb (blk_lt h.b4), blk_below h.b5 hb (blk_lt h.b5)⟩
theorem FdI.kind {w0 w : World} {S : Nat} {vR : Array Value} {f : RField} {k rf : Int} (h : FdI w0 S vR f k rf w) (hS : w0.heap.size ≤ S) (k' : Int) : FdI w0 S vR f k' rf (w.setCell ⟨S + 1 + 1 + 1 + 1, 1, none⟩ (.int .u8 k')) :=
  ⟨h.below.setCell (by show w0.heap.size ≤ S + 1 + 1 + 1 + 1; omega) _, blk_set_ne h.b1 _ (by show S ≠ S + 1 + 1 + 1 + 1; omega) _, blk_set_ne h.b2 _ (by show S + 1 ≠ S + 1 + 1 + 1 + 1; omega) _, blk_set_ne h.b3 _ (by show S + 1 + 1 ≠ S + 1 + 1 + 1 + 1; omega) _, blk_set_ne h.b4 _ (by show S + 1 + 1 + 1 ≠ S + 1 + 1 + 1 + 1; omega) _, by rw [blk_set h.b5]; rfl⟩
theorem FdI.ref {w0 w : World} {S : Nat} {vR : Array Value} {f : RField} {k rf : Int} (h : FdI w0 S vR f k rf w) (hS : w0.heap.size ≤ S) (rf' : Int) : FdI w0 S vR f k rf' (w.setCell ⟨S + 1 + 1 + 1 + 1, 2, none⟩ (.int .i64 rf')) :=
  ⟨h.below.setCell (by show w0.heap.size ≤ S + 1 + 1 + 1 + 1; omega) _, blk_set_ne h.b1 _ (by show S ≠ S + 1 + 1 + 1 + 1; omega) _, blk_set_ne h.b2 _ (by show S + 1 ≠ S + 1 + 1 + 1 + 1; omega) _, blk_set_ne h.b3 _ (by show S + 1 + 1 ≠ S + 1 + 1 + 1 + 1; omega) _, blk_set_ne h.b4 _ (by show S + 1 + 1 + 1 ≠ S + 1 + 1 + 1 + 1; omega) _, by rw [blk_set h.b5]; rfl⟩
theorem five1 (w : World) (a b c d e : Obj) : (((((w.alloc a).alloc b).alloc c).alloc d).alloc e).heap[w.heap.size]? = some a := blk_alloc (blk_alloc (blk_alloc (blk_alloc (blk_new w a) _) _) _) _
theorem five2 (w : World) (a b c d e : Obj) : (((((w.alloc a).alloc b).alloc c).alloc d).alloc e).heap[w.heap.size + 1]? = some b := by
  have := blk_new (w.alloc a) b
  rw [World.size_alloc] at this
  exact blk_alloc (blk_alloc (blk_alloc this _) _) _
theorem five3 (w : World) (a b c d e : Obj) : (((((w.alloc a).alloc b).alloc c).alloc d).alloc e).heap[w.heap.size + 1 + 1]? = some c := by
  have := blk_new ((w.alloc a).alloc b) c
  rw [World.size_alloc, World.size_alloc] at this
  exact blk_alloc (blk_alloc this _) _
theorem five4 (w : World) (a b c d e : Obj) : (((((w.alloc a).alloc b).alloc c).alloc d).alloc e).heap[w.heap.size + 1 + 1 + 1]? = some d := by
  have := blk_new (((w.alloc a).alloc b).alloc c) d
  rw [World.size_alloc, World.size_alloc, World.size_alloc] at this
  exact blk_alloc this _
theorem five5 (w : World) (a b c d e : Obj) : (((((w.alloc a).alloc b).alloc c).alloc d).alloc e).heap[w.heap.size + 1 + 1 + 1 + 1]? = some e := by
  have := blk_new ((((w.alloc a).alloc b).alloc c).alloc d) e
  rw [World.size_alloc, World.size_alloc, World.size_alloc, World.size_alloc] at this
  exact this
theorem five_below (w : World) (a b c d e : Obj) : Below w.heap.size w (((((w.alloc a).alloc b).alloc c).alloc d).alloc e) := (((((below1 w a).alloc (by simp) b).alloc (by simp; omega) c).alloc (by simp; omega) d).alloc (by simp; omega) e)
theorem basicK_ne10 (s : ByteArray) : basicK s ≠ 10 := by
  unfold basicK
  split
  · decide
  · rename_i h
    cases hf : firstIx 12 (fun i => eqS (basicN i) s) with
    | none => simp
    | some i =>
      simp only
      intro e
      obtain rfl : i = 9 := by omega
      have := (eqS_iff _ _).1 (firstIx_spec hf).2.1
      rw [← this] at h
      exact h rfl
theorem basicK_le (s : ByteArray) : basicK s ≤ 12 := by
  unfold basicK
  split
  · omega
  · cases hf : firstIx 12 (fun i => eqS (basicN i) s) with
    | none => simp
    | some i => have := (firstIx_spec hf).1; simp only; omega

set_option maxHeartbeats 4000000 in
set_option maxRecDepth 100000 in
theorem sfield_calls (r : RawD) (hbd : RawBd r) (a1 a2 a3 : Option Addr) (c1 c2 c3 : Nat) (f : RField) (hd : f.df.text.size ≤ 8192) (w : World) (h : RawRows w a1 a2 a3 r) :
    Calls Try.prog 50 #[.agg #[.slice a1 r.structs.length c1, .slice a2 r.enums.length c2, .slice a3 r.roots.length c3], .agg (fldL f).toArray] w (FieldPost (fieldI r f) w) := by
  have hls : ((f.ty.lists : Nat) : Int) = (f.ty.lists : Int) := rfl
  show Calls _ _ #[_, .agg #[.string f.name, .int .i64 (f.pos : Int), .string f.ty.name, .int .i64 (f.ty.lists : Int), .int .i64 (f.ty.pos : Int), .int .i64 f.df.kind, .string f.df.text, .int .i64 (f.df.pos : Int)]] _ _
  go_enter Try.func50, Try.ntmps50
  have hF5 : FdI w w.heap.size #[.slice a1 r.structs.length c1, .slice a2 r.enums.length c2, .slice a3 r.roots.length c3] f 0 0 (((((w.alloc (Obj.cells #[.slice a1 r.structs.length c1, .slice a2 r.enums.length c2, .slice a3 r.roots.length c3] 27)).alloc (Obj.cells #[.string f.name, .int .i64 (f.pos : Int), .string f.ty.name, .int .i64 (f.ty.lists : Int), .int .i64 (f.ty.pos : Int), .int .i64 f.df.kind, .string f.df.text, .int .i64 (f.df.pos : Int)] 43)).alloc (Obj.cells #[.string ⟨#[]⟩, .int .u8 0, .int .i64 0, .int .i64 0, .int .u64 0] 70)).alloc (Obj.cells #[.int .i64 0, .int .i64 0] 30)).alloc (Obj.cells #[.string f.name, .int .u8 0, .int .i64 0, .int .i64 (f.ty.lists : Int), .int .u64 0] 70)) :=
    ⟨five_below _ _ _ _ _ _, five1 _ _ _ _ _ _, five2 _ _ _ _ _ _, five3 _ _ _ _ _ _, five4 _ _ _ _ _ _, five5 _ _ _ _ _ _⟩
  go_upto_region 2 with (fail)
  generalize (((((w.alloc (Obj.cells #[.slice a1 r.structs.length c1, .slice a2 r.enums.length c2, .slice a3 r.roots.length c3] 27)).alloc (Obj.cells #[.string f.name, .int .i64 (f.pos : Int), .string f.ty.name, .int .i64 (f.ty.lists : Int), .int .i64 (f.ty.pos : Int), .int .i64 f.df.kind, .string f.df.text, .int .i64 (f.df.pos : Int)] 43)).alloc (Obj.cells #[.string ⟨#[]⟩, .int .u8 0, .int .i64 0, .int .i64 0, .int .u64 0] 70)).alloc (Obj.cells #[.int .i64 0, .int .i64 0] 30)).alloc (Obj.cells #[.string f.name, .int .u8 0, .int .i64 0, .int .i64 (f.ty.lists : Int), .int .u64 0] 70)) = W at *
  obtain ⟨S, hS⟩ : ∃ S, S = w.heap.size := ⟨_, rfl⟩
  rw [← hS] at hF5 ⊢
  have HSL : w.heap.size ≤ S := by omega
  have HS := Lib.hid HSL
  have HR := Lib.hid h
  have HBD := Lib.hid hbd
  have HD := Lib.hid hd
  have HF5 := Lib.hid hF5
  have hfi : fieldI r f = match typeI r f.ty.name with
    | none => .error (14, f.ty.pos)
    | some (k, rf) => if f.df.kind = 0 then .ok ⟨f.name, k, (rf : Int), (f.ty.lists : Int), 0⟩ else match valueI r k rf f.ty.lists f.df with
      | none => .error (15, f.df.pos)
      | some n => .ok ⟨f.name, k, (rf : Int), (f.ty.lists : Int), n⟩ := rfl
  have HFI := Lib.hid hfi
  have hti : typeI r f.ty.name = if basicK f.ty.name ≠ 0 then some ((basicK f.ty.name : Int), 0) else match enumIx r f.ty.name with | some i => some (10, i) | none => match recIx r f.ty.name with | some i => some (13, i) | none => none := rfl
  have HTI := Lib.hid hti
  have hkb := basicK_ne10 f.ty.name
  have hkl := basicK_le f.ty.name
  clear hbd hd h hF5 hfi hti hls hS HSL
  have r0 : W.cell? ⟨S, 0, none⟩ = some (.slice a1 r.structs.length c1) := by rw [blk_cell HF5.out.b1]; rfl
  have r1 : W.cell? ⟨S, 1, none⟩ = some (.slice a2 r.enums.length c2) := by rw [blk_cell HF5.out.b1]; rfl
  have r2 : W.cell? ⟨S, 2, none⟩ = some (.slice a3 r.roots.length c3) := by rw [blk_cell HF5.out.b1]; rfl
  have t2 : W.cell? ⟨S + 1, 2, none⟩ = some (.string f.ty.name) := by rw [blk_cell HF5.out.b2]; rfl
  have t4 : W.cell? ⟨S + 1, 4, none⟩ = some (.int .i64 (f.ty.pos : Int)) := by rw [blk_cell HF5.out.b2]; rfl
  have t5 : W.cell? ⟨S + 1, 5, none⟩ = some (.int .i64 f.df.kind) := by rw [blk_cell HF5.out.b2]; rfl
  have t6 : W.cell? ⟨S + 1, 6, none⟩ = some (.string f.df.text) := by rw [blk_cell HF5.out.b2]; rfl
  have t7 : W.cell? ⟨S + 1, 7, none⟩ = some (.int .i64 (f.df.pos : Int)) := by rw [blk_cell HF5.out.b2]; rfl
  have o0 : W.cell? ⟨S + 1 + 1 + 1 + 1, 0, none⟩ = some (.string f.name) := by rw [blk_cell HF5.out.b5]; rfl
  have o1 : W.cell? ⟨S + 1 + 1 + 1 + 1, 1, none⟩ = some (.int .u8 0) := by rw [blk_cell HF5.out.b5]; rfl
  have o2 : W.cell? ⟨S + 1 + 1 + 1 + 1, 2, none⟩ = some (.int .i64 0) := by rw [blk_cell HF5.out.b5]; rfl
  have o3 : W.cell? ⟨S + 1 + 1 + 1 + 1, 3, none⟩ = some (.int .i64 (f.ty.lists : Int)) := by rw [blk_cell HF5.out.b5]; rfl
  have o4 : W.cell? ⟨S + 1 + 1 + 1 + 1, 4, none⟩ = some (.int .u64 0) := by rw [blk_cell HF5.out.b5]; rfl
  have of := fun j => blk_frozen HF5.out.b5 j
  have p0 : W.cell? ⟨S + 1 + 1, 0, none⟩ = some (.string ⟨#[]⟩) := by rw [blk_cell HF5.out.b3]; rfl
  have p1 : W.cell? ⟨S + 1 + 1, 1, none⟩ = some (.int .u8 0) := by rw [blk_cell HF5.out.b3]; rfl
  have p2 : W.cell? ⟨S + 1 + 1, 2, none⟩ = some (.int .i64 0) := by rw [blk_cell HF5.out.b3]; rfl
  have p3 : W.cell? ⟨S + 1 + 1, 3, none⟩ = some (.int .i64 0) := by rw [blk_cell HF5.out.b3]; rfl
  have p4 : W.cell? ⟨S + 1 + 1, 4, none⟩ = some (.int .u64 0) := by rw [blk_cell HF5.out.b3]; rfl
  have pf := fun j => blk_frozen HF5.out.b3 j
  have q0 : W.cell? ⟨S + 1 + 1 + 1, 0, none⟩ = some (.int .i64 0) := by rw [blk_cell HF5.out.b4]; rfl
  have q1 : W.cell? ⟨S + 1 + 1 + 1, 1, none⟩ = some (.int .i64 0) := by rw [blk_cell HF5.out.b4]; rfl
  have qf := fun j => blk_frozen HF5.out.b4 j
  have l1 := blk_lt HF5.out.b1
  have l2 := blk_lt HF5.out.b2
  have l3 := blk_lt HF5.out.b3
  have l4 := blk_lt HF5.out.b4
  have l5 := blk_lt HF5.out.b5
  go_wp2_with fail
  clear r0 r1 r2 t2 t4 t5 t6 t7 o0 o1 o2 o3 o4 of p0 p1 p2 p3 p4 pf q0 q1 qf l1 l2 l3 l4 l5
  refine (basic_calls f.ty.name W).mono ?_
  rintro e w1 ⟨kd, rfl, hkd, hB1⟩
  have HF1 := Lib.hid (HF5.out.run hB1)
  clear hB1
  have r0 : w1.cell? ⟨S, 0, none⟩ = some (.slice a1 r.structs.length c1) := by rw [blk_cell HF1.out.b1]; rfl
  have r1 : w1.cell? ⟨S, 1, none⟩ = some (.slice a2 r.enums.length c2) := by rw [blk_cell HF1.out.b1]; rfl
  have r2 : w1.cell? ⟨S, 2, none⟩ = some (.slice a3 r.roots.length c3) := by rw [blk_cell HF1.out.b1]; rfl
  have t2 : w1.cell? ⟨S + 1, 2, none⟩ = some (.string f.ty.name) := by rw [blk_cell HF1.out.b2]; rfl
  have t4 : w1.cell? ⟨S + 1, 4, none⟩ = some (.int .i64 (f.ty.pos : Int)) := by rw [blk_cell HF1.out.b2]; rfl
  have t5 : w1.cell? ⟨S + 1, 5, none⟩ = some (.int .i64 f.df.kind) := by rw [blk_cell HF1.out.b2]; rfl
  have t6 : w1.cell? ⟨S + 1, 6, none⟩ = some (.string f.df.text) := by rw [blk_cell HF1.out.b2]; rfl
  have t7 : w1.cell? ⟨S + 1, 7, none⟩ = some (.int .i64 (f.df.pos : Int)) := by rw [blk_cell HF1.out.b2]; rfl
  have o0 : w1.cell? ⟨S + 1 + 1 + 1 + 1, 0, none⟩ = some (.string f.name) := by rw [blk_cell HF1.out.b5]; rfl
  have o1 : w1.cell? ⟨S + 1 + 1 + 1 + 1, 1, none⟩ = some (.int .u8 0) := by rw [blk_cell HF1.out.b5]; rfl
  have o2 : w1.cell? ⟨S + 1 + 1 + 1 + 1, 2, none⟩ = some (.int .i64 0) := by rw [blk_cell HF1.out.b5]; rfl
  have o3 : w1.cell? ⟨S + 1 + 1 + 1 + 1, 3, none⟩ = some (.int .i64 (f.ty.lists : Int)) := by rw [blk_cell HF1.out.b5]; rfl
  have o4 : w1.cell? ⟨S + 1 + 1 + 1 + 1, 4, none⟩ = some (.int .u64 0) := by rw [blk_cell HF1.out.b5]; rfl
  have of := fun j => blk_frozen HF1.out.b5 j
  have p0 : w1.cell? ⟨S + 1 + 1, 0, none⟩ = some (.string ⟨#[]⟩) := by rw [blk_cell HF1.out.b3]; rfl
  have p1 : w1.cell? ⟨S + 1 + 1, 1, none⟩ = some (.int .u8 0) := by rw [blk_cell HF1.out.b3]; rfl
  have p2 : w1.cell? ⟨S + 1 + 1, 2, none⟩ = some (.int .i64 0) := by rw [blk_cell HF1.out.b3]; rfl
  have p3 : w1.cell? ⟨S + 1 + 1, 3, none⟩ = some (.int .i64 0) := by rw [blk_cell HF1.out.b3]; rfl
  have p4 : w1.cell? ⟨S + 1 + 1, 4, none⟩ = some (.int .u64 0) := by rw [blk_cell HF1.out.b3]; rfl
  have pf := fun j => blk_frozen HF1.out.b3 j
  have q0 : w1.cell? ⟨S + 1 + 1 + 1, 0, none⟩ = some (.int .i64 0) := by rw [blk_cell HF1.out.b4]; rfl
  have q1 : w1.cell? ⟨S + 1 + 1 + 1, 1, none⟩ = some (.int .i64 0) := by rw [blk_cell HF1.out.b4]; rfl
  have qf := fun j => blk_frozen HF1.out.b4 j
  have l1 := blk_lt HF1.out.b1
  have l2 := blk_lt HF1.out.b2
  have l3 := blk_lt HF1.out.b3
  have l4 := blk_lt HF1.out.b4
  have l5 := blk_lt HF1.out.b5
  go_wp2_with fail
  have hp := pred_fieldCho f.ty.name (S + 1) w1 l2 t2
  have hR1 := HR.out.below HF1.out.below
  clear r0 r1 r2 t2 t4 t5 t6 t7 o0 o1 o2 o3 o4 of p0 p1 p2 p3 p4 pf q0 q1 qf l1 l2 l3 l4 l5
  refine (ixCho_calls r (by have := HBD.out.e; omega) a1 a2 a3 c2 w1 hR1 64 _ f.ty.name hp (enters_of Try.func64 (by kernel_rfl) rfl)).mono ?_
  rintro e w2 ⟨rfl, hB2⟩
  have HF2 := Lib.hid (HF1.out.run hB2)
  clear hB2 hp hR1
  have r0 : w2.cell? ⟨S, 0, none⟩ = some (.slice a1 r.structs.length c1) := by rw [blk_cell HF2.out.b1]; rfl
  have r1 : w2.cell? ⟨S, 1, none⟩ = some (.slice a2 r.enums.length c2) := by rw [blk_cell HF2.out.b1]; rfl
  have r2 : w2.cell? ⟨S, 2, none⟩ = some (.slice a3 r.roots.length c3) := by rw [blk_cell HF2.out.b1]; rfl
  have t2 : w2.cell? ⟨S + 1, 2, none⟩ = some (.string f.ty.name) := by rw [blk_cell HF2.out.b2]; rfl
  have t4 : w2.cell? ⟨S + 1, 4, none⟩ = some (.int .i64 (f.ty.pos : Int)) := by rw [blk_cell HF2.out.b2]; rfl
  have t5 : w2.cell? ⟨S + 1, 5, none⟩ = some (.int .i64 f.df.kind) := by rw [blk_cell HF2.out.b2]; rfl
  have t6 : w2.cell? ⟨S + 1, 6, none⟩ = some (.string f.df.text) := by rw [blk_cell HF2.out.b2]; rfl
  have t7 : w2.cell? ⟨S + 1, 7, none⟩ = some (.int .i64 (f.df.pos : Int)) := by rw [blk_cell HF2.out.b2]; rfl
  have o0 : w2.cell? ⟨S + 1 + 1 + 1 + 1, 0, none⟩ = some (.string f.name) := by rw [blk_cell HF2.out.b5]; rfl
  have o1 : w2.cell? ⟨S + 1 + 1 + 1 + 1, 1, none⟩ = some (.int .u8 0) := by rw [blk_cell HF2.out.b5]; rfl
  have o2 : w2.cell? ⟨S + 1 + 1 + 1 + 1, 2, none⟩ = some (.int .i64 0) := by rw [blk_cell HF2.out.b5]; rfl
  have o3 : w2.cell? ⟨S + 1 + 1 + 1 + 1, 3, none⟩ = some (.int .i64 (f.ty.lists : Int)) := by rw [blk_cell HF2.out.b5]; rfl
  have o4 : w2.cell? ⟨S + 1 + 1 + 1 + 1, 4, none⟩ = some (.int .u64 0) := by rw [blk_cell HF2.out.b5]; rfl
  have of := fun j => blk_frozen HF2.out.b5 j
  have p0 : w2.cell? ⟨S + 1 + 1, 0, none⟩ = some (.string ⟨#[]⟩) := by rw [blk_cell HF2.out.b3]; rfl
  have p1 : w2.cell? ⟨S + 1 + 1, 1, none⟩ = some (.int .u8 0) := by rw [blk_cell HF2.out.b3]; rfl
  have p2 : w2.cell? ⟨S + 1 + 1, 2, none⟩ = some (.int .i64 0) := by rw [blk_cell HF2.out.b3]; rfl
  have p3 : w2.cell? ⟨S + 1 + 1, 3, none⟩ = some (.int .i64 0) := by rw [blk_cell HF2.out.b3]; rfl
  have p4 : w2.cell? ⟨S + 1 + 1, 4, none⟩ = some (.int .u64 0) := by rw [blk_cell HF2.out.b3]; rfl
  have pf := fun j => blk_frozen HF2.out.b3 j
  have q0 : w2.cell? ⟨S + 1 + 1 + 1, 0, none⟩ = some (.int .i64 0) := by rw [blk_cell HF2.out.b4]; rfl
  have q1 : w2.cell? ⟨S + 1 + 1 + 1, 1, none⟩ = some (.int .i64 0) := by rw [blk_cell HF2.out.b4]; rfl
  have qf := fun j => blk_frozen HF2.out.b4 j
  have l1 := blk_lt HF2.out.b1
  have l2 := blk_lt HF2.out.b2
  have l3 := blk_lt HF2.out.b3
  have l4 := blk_lt HF2.out.b4
  have l5 := blk_lt HF2.out.b5
  go_wp2_with fail
  have hp := pred_fieldRec f.ty.name (S + 1) w2 l2 t2
  have hR1 := HR.out.below HF2.out.below
  clear r0 r1 r2 t2 t4 t5 t6 t7 o0 o1 o2 o3 o4 of p0 p1 p2 p3 p4 pf q0 q1 qf l1 l2 l3 l4 l5
  refine (ixRec_calls r (by have := HBD.out.s; omega) a1 a2 a3 c1 w2 hR1 65 _ f.ty.name hp (enters_of Try.func65 (by kernel_rfl) rfl)).mono ?_
  rintro e w3 ⟨rfl, hB3⟩
  have HF3 := Lib.hid (HF2.out.run hB3)
  clear hB3 hp hR1
  have hR3 := HR.out.below HF3.out.below
  by_cases hk0 : basicK f.ty.name = 0
  · have hT : typeI r f.ty.name = match enumIx r f.ty.name with | some i => some (10, i) | none => match recIx r f.ty.name with | some i => some (13, i) | none => none := by rw [HTI.out, if_neg (fun h => h hk0)]
    have dk : decide (basicK f.ty.name = 0) = true := decide_eq_true hk0
    cases he : enumIx r f.ty.name with
    | some i =>
      have hil := (firstIx_spec he).1
      have hT2 : typeI r f.ty.name = some (10, i) := by rw [hT, he]
      rw [show ixV (some i) = (i : Int) from rfl]
      have hi0 : decide ((0 : Int) ≤ (i : Int)) = true := decide_eq_true (by omega)
      have r0 : w3.cell? ⟨S, 0, none⟩ = some (.slice a1 r.structs.length c1) := by rw [blk_cell HF3.out.b1]; rfl
      have r1 : w3.cell? ⟨S, 1, none⟩ = some (.slice a2 r.enums.length c2) := by rw [blk_cell HF3.out.b1]; rfl
      have r2 : w3.cell? ⟨S, 2, none⟩ = some (.slice a3 r.roots.length c3) := by rw [blk_cell HF3.out.b1]; rfl
      have t2 : w3.cell? ⟨S + 1, 2, none⟩ = some (.string f.ty.name) := by rw [blk_cell HF3.out.b2]; rfl
      have t4 : w3.cell? ⟨S + 1, 4, none⟩ = some (.int .i64 (f.ty.pos : Int)) := by rw [blk_cell HF3.out.b2]; rfl
      have t5 : w3.cell? ⟨S + 1, 5, none⟩ = some (.int .i64 f.df.kind) := by rw [blk_cell HF3.out.b2]; rfl
      have t6 : w3.cell? ⟨S + 1, 6, none⟩ = some (.string f.df.text) := by rw [blk_cell HF3.out.b2]; rfl
      have t7 : w3.cell? ⟨S + 1, 7, none⟩ = some (.int .i64 (f.df.pos : Int)) := by rw [blk_cell HF3.out.b2]; rfl
      have o0 : w3.cell? ⟨S + 1 + 1 + 1 + 1, 0, none⟩ = some (.string f.name) := by rw [blk_cell HF3.out.b5]; rfl
      have o1 : w3.cell? ⟨S + 1 + 1 + 1 + 1, 1, none⟩ = some (.int .u8 0) := by rw [blk_cell HF3.out.b5]; rfl
      have o2 : w3.cell? ⟨S + 1 + 1 + 1 + 1, 2, none⟩ = some (.int .i64 0) := by rw [blk_cell HF3.out.b5]; rfl
      have o3 : w3.cell? ⟨S + 1 + 1 + 1 + 1, 3, none⟩ = some (.int .i64 (f.ty.lists : Int)) := by rw [blk_cell HF3.out.b5]; rfl
      have o4 : w3.cell? ⟨S + 1 + 1 + 1 + 1, 4, none⟩ = some (.int .u64 0) := by rw [blk_cell HF3.out.b5]; rfl
      have of := fun j => blk_frozen HF3.out.b5 j
      have p0 : w3.cell? ⟨S + 1 + 1, 0, none⟩ = some (.string ⟨#[]⟩) := by rw [blk_cell HF3.out.b3]; rfl
      have p1 : w3.cell? ⟨S + 1 + 1, 1, none⟩ = some (.int .u8 0) := by rw [blk_cell HF3.out.b3]; rfl
      have p2 : w3.cell? ⟨S + 1 + 1, 2, none⟩ = some (.int .i64 0) := by rw [blk_cell HF3.out.b3]; rfl
      have p3 : w3.cell? ⟨S + 1 + 1, 3, none⟩ = some (.int .i64 0) := by rw [blk_cell HF3.out.b3]; rfl
      have p4 : w3.cell? ⟨S + 1 + 1, 4, none⟩ = some (.int .u64 0) := by rw [blk_cell HF3.out.b3]; rfl
      have pf := fun j => blk_frozen HF3.out.b3 j
      have q0 : w3.cell? ⟨S + 1 + 1 + 1, 0, none⟩ = some (.int .i64 0) := by rw [blk_cell HF3.out.b4]; rfl
      have q1 : w3.cell? ⟨S + 1 + 1 + 1, 1, none⟩ = some (.int .i64 0) := by rw [blk_cell HF3.out.b4]; rfl
      have qf := fun j => blk_frozen HF3.out.b4 j
      have l1 := blk_lt HF3.out.b1
      have l2 := blk_lt HF3.out.b2
      have l3 := blk_lt HF3.out.b3
      have l4 := blk_lt HF3.out.b4
      have l5 := blk_lt HF3.out.b5
      clear hT hkd hk0 HTI hkb hkl he
      go_upto_region 12 with (fail)
      obtain ⟨w4, hw4⟩ : ∃ w4, w4 = (w3.setCell ⟨S + 1 + 1 + 1 + 1, 1, none⟩ (.int .u8 10)).setCell ⟨S + 1 + 1 + 1 + 1, 2, none⟩ (.int .i64 (i : Int)) := ⟨_, rfl⟩
      have HF4 : Hid (FdI w S #[.slice a1 r.structs.length c1, .slice a2 r.enums.length c2, .slice a3 r.roots.length c3] f 10 (i : Int) w4) := Lib.hid (by rw [hw4]; exact (HF3.out.kind HS.out 10).ref HS.out (i : Int))
      rw [← hw4]
      clear hw4
      clear r0 r1 r2 t2 t4 t5 t6 t7 o0 o1 o2 o3 o4 of p0 p1 p2 p3 p4 pf q0 q1 qf l1 l2 l3 l4 l5
      have hR4 := HR.out.below HF4.out.below
      by_cases hdk : f.df.kind = 0
      · have hfo : fieldI r f = .ok ⟨f.name, 10, ((i : Nat) : Int), (f.ty.lists : Int), 0⟩ := by rw [HFI.out, hT2]; simp only; rw [if_pos hdk]
        have dd : decide (f.df.kind = 0) = true := decide_eq_true hdk
        have d2 : (f.df.kind == 0) = true := by rw [hdk]; rfl
        have r0 : w4.cell? ⟨S, 0, none⟩ = some (.slice a1 r.structs.length c1) := by rw [blk_cell HF4.out.b1]; rfl
        have r1 : w4.cell? ⟨S, 1, none⟩ = some (.slice a2 r.enums.length c2) := by rw [blk_cell HF4.out.b1]; rfl
        have r2 : w4.cell? ⟨S, 2, none⟩ = some (.slice a3 r.roots.length c3) := by rw [blk_cell HF4.out.b1]; rfl
        have t2 : w4.cell? ⟨S + 1, 2, none⟩ = some (.string f.ty.name) := by rw [blk_cell HF4.out.b2]; rfl
        have t4 : w4.cell? ⟨S + 1, 4, none⟩ = some (.int .i64 (f.ty.pos : Int)) := by rw [blk_cell HF4.out.b2]; rfl
        have t5 : w4.cell? ⟨S + 1, 5, none⟩ = some (.int .i64 f.df.kind) := by rw [blk_cell HF4.out.b2]; rfl
        have t6 : w4.cell? ⟨S + 1, 6, none⟩ = some (.string f.df.text) := by rw [blk_cell HF4.out.b2]; rfl
        have t7 : w4.cell? ⟨S + 1, 7, none⟩ = some (.int .i64 (f.df.pos : Int)) := by rw [blk_cell HF4.out.b2]; rfl
        have o0 : w4.cell? ⟨S + 1 + 1 + 1 + 1, 0, none⟩ = some (.string f.name) := by rw [blk_cell HF4.out.b5]; rfl
        have o1 : w4.cell? ⟨S + 1 + 1 + 1 + 1, 1, none⟩ = some (.int .u8 10) := by rw [blk_cell HF4.out.b5]; rfl
        have o2 : w4.cell? ⟨S + 1 + 1 + 1 + 1, 2, none⟩ = some (.int .i64 (i : Int)) := by rw [blk_cell HF4.out.b5]; rfl
        have o3 : w4.cell? ⟨S + 1 + 1 + 1 + 1, 3, none⟩ = some (.int .i64 (f.ty.lists : Int)) := by rw [blk_cell HF4.out.b5]; rfl
        have o4 : w4.cell? ⟨S + 1 + 1 + 1 + 1, 4, none⟩ = some (.int .u64 0) := by rw [blk_cell HF4.out.b5]; rfl
        have of := fun j => blk_frozen HF4.out.b5 j
        have p0 : w4.cell? ⟨S + 1 + 1, 0, none⟩ = some (.string ⟨#[]⟩) := by rw [blk_cell HF4.out.b3]; rfl
        have p1 : w4.cell? ⟨S + 1 + 1, 1, none⟩ = some (.int .u8 0) := by rw [blk_cell HF4.out.b3]; rfl
        have p2 : w4.cell? ⟨S + 1 + 1, 2, none⟩ = some (.int .i64 0) := by rw [blk_cell HF4.out.b3]; rfl
        have p3 : w4.cell? ⟨S + 1 + 1, 3, none⟩ = some (.int .i64 0) := by rw [blk_cell HF4.out.b3]; rfl
        have p4 : w4.cell? ⟨S + 1 + 1, 4, none⟩ = some (.int .u64 0) := by rw [blk_cell HF4.out.b3]; rfl
        have pf := fun j => blk_frozen HF4.out.b3 j
        have q0 : w4.cell? ⟨S + 1 + 1 + 1, 0, none⟩ = some (.int .i64 0) := by rw [blk_cell HF4.out.b4]; rfl
        have q1 : w4.cell? ⟨S + 1 + 1 + 1, 1, none⟩ = some (.int .i64 0) := by rw [blk_cell HF4.out.b4]; rfl
        have qf := fun j => blk_frozen HF4.out.b4 j
        have l1 := blk_lt HF4.out.b1
        have l2 := blk_lt HF4.out.b2
        have l3 := blk_lt HF4.out.b3
        have l4 := blk_lt HF4.out.b4
        have l5 := blk_lt HF4.out.b5
        go_wp2_with fail
        refine bodyPost_ret (v := .tuple #[.agg #[.string f.name, .int .u8 10, .int .i64 (i : Int), .int .i64 (f.ty.lists : Int), .int .u64 0], .agg #[.int .i64 0, .int .i64 0]]) (by simp [results, Try.results50, go_sem, *]) rfl ?_
        rw [hfo]
        refine FieldPost.mk_ok rfl ?_
        have hB := HF4.out.below
        have hS := HS.out
        (repeat' (first | (with_reducible exact Below.refl _ _) | (with_reducible assumption) | (with_reducible refine Below.alloc ?_ ?_ _) | (with_reducible refine Below.drew ?_) | (with_reducible refine Below.setCell ?_ ?_ _) | (with_reducible refine Below.trans ?_ (Below.mono (by assumption) ?_)) | go_size))
      · have dd : decide (f.df.kind = 0) = false := decide_eq_false hdk
        have d2 : (f.df.kind == 0) = false := beq_false_of_ne hdk
        have hv := value_calls r HBD.out a1 a2 a3 c1 c2 c3 10 i f.ty.lists f.df HD.out (fun _ => hil) w4 hR4
        (try rw [show ((0 : Nat) : Int) = 0 from rfl] at hv)
        have hfo : fieldI r f = match valueI r 10 i f.ty.lists f.df with
            | none => .error (15, f.df.pos)
            | some n => .ok ⟨f.name, 10, ((i : Nat) : Int), (f.ty.lists : Int), n⟩ := by rw [HFI.out, hT2]; simp only; rw [if_neg hdk]
        have HV := Lib.hid hv
        have HFO := Lib.hid hfo
        clear hv hfo
        have r0 : w4.cell? ⟨S, 0, none⟩ = some (.slice a1 r.structs.length c1) := by rw [blk_cell HF4.out.b1]; rfl
        have r1 : w4.cell? ⟨S, 1, none⟩ = some (.slice a2 r.enums.length c2) := by rw [blk_cell HF4.out.b1]; rfl
        have r2 : w4.cell? ⟨S, 2, none⟩ = some (.slice a3 r.roots.length c3) := by rw [blk_cell HF4.out.b1]; rfl
        have t2 : w4.cell? ⟨S + 1, 2, none⟩ = some (.string f.ty.name) := by rw [blk_cell HF4.out.b2]; rfl
        have t4 : w4.cell? ⟨S + 1, 4, none⟩ = some (.int .i64 (f.ty.pos : Int)) := by rw [blk_cell HF4.out.b2]; rfl
        have t5 : w4.cell? ⟨S + 1, 5, none⟩ = some (.int .i64 f.df.kind) := by rw [blk_cell HF4.out.b2]; rfl
        have t6 : w4.cell? ⟨S + 1, 6, none⟩ = some (.string f.df.text) := by rw [blk_cell HF4.out.b2]; rfl
        have t7 : w4.cell? ⟨S + 1, 7, none⟩ = some (.int .i64 (f.df.pos : Int)) := by rw [blk_cell HF4.out.b2]; rfl
        have o0 : w4.cell? ⟨S + 1 + 1 + 1 + 1, 0, none⟩ = some (.string f.name) := by rw [blk_cell HF4.out.b5]; rfl
        have o1 : w4.cell? ⟨S + 1 + 1 + 1 + 1, 1, none⟩ = some (.int .u8 10) := by rw [blk_cell HF4.out.b5]; rfl
        have o2 : w4.cell? ⟨S + 1 + 1 + 1 + 1, 2, none⟩ = some (.int .i64 (i : Int)) := by rw [blk_cell HF4.out.b5]; rfl
        have o3 : w4.cell? ⟨S + 1 + 1 + 1 + 1, 3, none⟩ = some (.int .i64 (f.ty.lists : Int)) := by rw [blk_cell HF4.out.b5]; rfl
        have o4 : w4.cell? ⟨S + 1 + 1 + 1 + 1, 4, none⟩ = some (.int .u64 0) := by rw [blk_cell HF4.out.b5]; rfl
        have of := fun j => blk_frozen HF4.out.b5 j
        have p0 : w4.cell? ⟨S + 1 + 1, 0, none⟩ = some (.string ⟨#[]⟩) := by rw [blk_cell HF4.out.b3]; rfl
        have p1 : w4.cell? ⟨S + 1 + 1, 1, none⟩ = some (.int .u8 0) := by rw [blk_cell HF4.out.b3]; rfl
        have p2 : w4.cell? ⟨S + 1 + 1, 2, none⟩ = some (.int .i64 0) := by rw [blk_cell HF4.out.b3]; rfl
        have p3 : w4.cell? ⟨S + 1 + 1, 3, none⟩ = some (.int .i64 0) := by rw [blk_cell HF4.out.b3]; rfl
        have p4 : w4.cell? ⟨S + 1 + 1, 4, none⟩ = some (.int .u64 0) := by rw [blk_cell HF4.out.b3]; rfl
        have pf := fun j => blk_frozen HF4.out.b3 j
        have q0 : w4.cell? ⟨S + 1 + 1 + 1, 0, none⟩ = some (.int .i64 0) := by rw [blk_cell HF4.out.b4]; rfl
        have q1 : w4.cell? ⟨S + 1 + 1 + 1, 1, none⟩ = some (.int .i64 0) := by rw [blk_cell HF4.out.b4]; rfl
        have qf := fun j => blk_frozen HF4.out.b4 j
        have l1 := blk_lt HF4.out.b1
        have l2 := blk_lt HF4.out.b2
        have l3 := blk_lt HF4.out.b3
        have l4 := blk_lt HF4.out.b4
        have l5 := blk_lt HF4.out.b5
        go_wp2_with fail
        clear r0 r1 r2 t2 t4 t5 t6 t7 o0 o1 o2 o3 o4 of p0 p1 p2 p3 p4 pf q0 q1 qf l1 l2 l3 l4 l5
        refine HV.out.mono ?_
        rintro e w5 ⟨⟨n, rfl, hn⟩, hB5⟩
        have HF5' := Lib.hid (HF4.out.run hB5)
        clear hB5 HV
        generalize valueI r 10 i f.ty.lists f.df = val at *
        have r0 : w5.cell? ⟨S, 0, none⟩ = some (.slice a1 r.structs.length c1) := by rw [blk_cell HF5'.out.b1]; rfl
        have r1 : w5.cell? ⟨S, 1, none⟩ = some (.slice a2 r.enums.length c2) := by rw [blk_cell HF5'.out.b1]; rfl
        have r2 : w5.cell? ⟨S, 2, none⟩ = some (.slice a3 r.roots.length c3) := by rw [blk_cell HF5'.out.b1]; rfl
        have t2 : w5.cell? ⟨S + 1, 2, none⟩ = some (.string f.ty.name) := by rw [blk_cell HF5'.out.b2]; rfl
        have t4 : w5.cell? ⟨S + 1, 4, none⟩ = some (.int .i64 (f.ty.pos : Int)) := by rw [blk_cell HF5'.out.b2]; rfl
        have t5 : w5.cell? ⟨S + 1, 5, none⟩ = some (.int .i64 f.df.kind) := by rw [blk_cell HF5'.out.b2]; rfl
        have t6 : w5.cell? ⟨S + 1, 6, none⟩ = some (.string f.df.text) := by rw [blk_cell HF5'.out.b2]; rfl
        have t7 : w5.cell? ⟨S + 1, 7, none⟩ = some (.int .i64 (f.df.pos : Int)) := by rw [blk_cell HF5'.out.b2]; rfl
        have o0 : w5.cell? ⟨S + 1 + 1 + 1 + 1, 0, none⟩ = some (.string f.name) := by rw [blk_cell HF5'.out.b5]; rfl
        have o1 : w5.cell? ⟨S + 1 + 1 + 1 + 1, 1, none⟩ = some (.int .u8 10) := by rw [blk_cell HF5'.out.b5]; rfl
        have o2 : w5.cell? ⟨S + 1 + 1 + 1 + 1, 2, none⟩ = some (.int .i64 (i : Int)) := by rw [blk_cell HF5'.out.b5]; rfl
        have o3 : w5.cell? ⟨S + 1 + 1 + 1 + 1, 3, none⟩ = some (.int .i64 (f.ty.lists : Int)) := by rw [blk_cell HF5'.out.b5]; rfl
        have o4 : w5.cell? ⟨S + 1 + 1 + 1 + 1, 4, none⟩ = some (.int .u64 0) := by rw [blk_cell HF5'.out.b5]; rfl
        have of := fun j => blk_frozen HF5'.out.b5 j
        have p0 : w5.cell? ⟨S + 1 + 1, 0, none⟩ = some (.string ⟨#[]⟩) := by rw [blk_cell HF5'.out.b3]; rfl
        have p1 : w5.cell? ⟨S + 1 + 1, 1, none⟩ = some (.int .u8 0) := by rw [blk_cell HF5'.out.b3]; rfl
        have p2 : w5.cell? ⟨S + 1 + 1, 2, none⟩ = some (.int .i64 0) := by rw [blk_cell HF5'.out.b3]; rfl
        have p3 : w5.cell? ⟨S + 1 + 1, 3, none⟩ = some (.int .i64 0) := by rw [blk_cell HF5'.out.b3]; rfl
        have p4 : w5.cell? ⟨S + 1 + 1, 4, none⟩ = some (.int .u64 0) := by rw [blk_cell HF5'.out.b3]; rfl
        have pf := fun j => blk_frozen HF5'.out.b3 j
        have q0 : w5.cell? ⟨S + 1 + 1 + 1, 0, none⟩ = some (.int .i64 0) := by rw [blk_cell HF5'.out.b4]; rfl
        have q1 : w5.cell? ⟨S + 1 + 1 + 1, 1, none⟩ = some (.int .i64 0) := by rw [blk_cell HF5'.out.b4]; rfl
        have qf := fun j => blk_frozen HF5'.out.b4 j
        have l1 := blk_lt HF5'.out.b1
        have l2 := blk_lt HF5'.out.b2
        have l3 := blk_lt HF5'.out.b3
        have l4 := blk_lt HF5'.out.b4
        have l5 := blk_lt HF5'.out.b5
        cases val with
        | none =>
          have hfo := HFO.out
          simp only at hfo
          have HFO2 := Lib.hid hfo
          clear hfo hn
          go_wp2_with fail
          go_region
          all_goals (try go_wp2_with fail)
          all_goals refine bodyPost_ret (v := .tuple #[.agg #[.string ⟨#[]⟩, .int .u8 0, .int .i64 0, .int .i64 0, .int .u64 0], .agg #[.int .i64 15, .int .i64 (f.df.pos : Int)]]) (by simp [results, Try.results50, go_sem, *]) rfl ?_
          all_goals rw [HFO2.out]
          all_goals refine FieldPost.mk_err rfl ?_
          all_goals have hB := HF5'.out.below
          all_goals have hS := HS.out
          all_goals (repeat' (first | (with_reducible exact Below.refl _ _) | (with_reducible assumption) | (with_reducible refine below_drewN ?_ _) | (with_reducible refine Below.alloc ?_ ?_ _) | (with_reducible refine Below.drew ?_) | (with_reducible refine Below.setCell ?_ ?_ _) | (with_reducible refine Below.trans ?_ (Below.mono (by assumption) ?_)) | go_size))
        | some x =>
          obtain rfl := hn x rfl
          have hfo := HFO.out
          simp only at hfo
          have HFO2 := Lib.hid hfo
          clear hfo hn
          go_wp2_with fail
          refine bodyPost_ret (v := .tuple #[.agg #[.string f.name, .int .u8 10, .int .i64 (i : Int), .int .i64 (f.ty.lists : Int), .int .u64 n], .agg #[.int .i64 0, .int .i64 0]]) (by simp [results, Try.results50, go_sem, *]) rfl ?_
          rw [HFO2.out]
          refine FieldPost.mk_ok rfl ?_
          have hB := HF5'.out.below
          have hS := HS.out
          (repeat' (first | (with_reducible exact Below.refl _ _) | (with_reducible assumption) | (with_reducible refine Below.alloc ?_ ?_ _) | (with_reducible refine Below.drew ?_) | (with_reducible refine Below.setCell ?_ ?_ _) | (with_reducible refine Below.trans ?_ (Below.mono (by assumption) ?_)) | go_size))
    | none =>
      rw [show ixV none = -1 from rfl]
      cases hr : recIx r f.ty.name with
      | some i =>
        have hT2 : typeI r f.ty.name = some (13, i) := by rw [hT, he]; simp only; rw [hr]
        rw [show ixV (some i) = (i : Int) from rfl]
        have hi0 : decide ((0 : Int) ≤ (i : Int)) = true := decide_eq_true (by omega)
        have r0 : w3.cell? ⟨S, 0, none⟩ = some (.slice a1 r.structs.length c1) := by rw [blk_cell HF3.out.b1]; rfl
        have r1 : w3.cell? ⟨S, 1, none⟩ = some (.slice a2 r.enums.length c2) := by rw [blk_cell HF3.out.b1]; rfl
        have r2 : w3.cell? ⟨S, 2, none⟩ = some (.slice a3 r.roots.length c3) := by rw [blk_cell HF3.out.b1]; rfl
        have t2 : w3.cell? ⟨S + 1, 2, none⟩ = some (.string f.ty.name) := by rw [blk_cell HF3.out.b2]; rfl
        have t4 : w3.cell? ⟨S + 1, 4, none⟩ = some (.int .i64 (f.ty.pos : Int)) := by rw [blk_cell HF3.out.b2]; rfl
        have t5 : w3.cell? ⟨S + 1, 5, none⟩ = some (.int .i64 f.df.kind) := by rw [blk_cell HF3.out.b2]; rfl
        have t6 : w3.cell? ⟨S + 1, 6, none⟩ = some (.string f.df.text) := by rw [blk_cell HF3.out.b2]; rfl
        have t7 : w3.cell? ⟨S + 1, 7, none⟩ = some (.int .i64 (f.df.pos : Int)) := by rw [blk_cell HF3.out.b2]; rfl
        have o0 : w3.cell? ⟨S + 1 + 1 + 1 + 1, 0, none⟩ = some (.string f.name) := by rw [blk_cell HF3.out.b5]; rfl
        have o1 : w3.cell? ⟨S + 1 + 1 + 1 + 1, 1, none⟩ = some (.int .u8 0) := by rw [blk_cell HF3.out.b5]; rfl
        have o2 : w3.cell? ⟨S + 1 + 1 + 1 + 1, 2, none⟩ = some (.int .i64 0) := by rw [blk_cell HF3.out.b5]; rfl
        have o3 : w3.cell? ⟨S + 1 + 1 + 1 + 1, 3, none⟩ = some (.int .i64 (f.ty.lists : Int)) := by rw [blk_cell HF3.out.b5]; rfl
        have o4 : w3.cell? ⟨S + 1 + 1 + 1 + 1, 4, none⟩ = some (.int .u64 0) := by rw [blk_cell HF3.out.b5]; rfl
        have of := fun j => blk_frozen HF3.out.b5 j
        have p0 : w3.cell? ⟨S + 1 + 1, 0, none⟩ = some (.string ⟨#[]⟩) := by rw [blk_cell HF3.out.b3]; rfl
        have p1 : w3.cell? ⟨S + 1 + 1, 1, none⟩ = some (.int .u8 0) := by rw [blk_cell HF3.out.b3]; rfl
        have p2 : w3.cell? ⟨S + 1 + 1, 2, none⟩ = some (.int .i64 0) := by rw [blk_cell HF3.out.b3]; rfl
        have p3 : w3.cell? ⟨S + 1 + 1, 3, none⟩ = some (.int .i64 0) := by rw [blk_cell HF3.out.b3]; rfl
        have p4 : w3.cell? ⟨S + 1 + 1, 4, none⟩ = some (.int .u64 0) := by rw [blk_cell HF3.out.b3]; rfl
        have pf := fun j => blk_frozen HF3.out.b3 j
        have q0 : w3.cell? ⟨S + 1 + 1 + 1, 0, none⟩ = some (.int .i64 0) := by rw [blk_cell HF3.out.b4]; rfl
        have q1 : w3.cell? ⟨S + 1 + 1 + 1, 1, none⟩ = some (.int .i64 0) := by rw [blk_cell HF3.out.b4]; rfl
        have qf := fun j => blk_frozen HF3.out.b4 j
        have l1 := blk_lt HF3.out.b1
        have l2 := blk_lt HF3.out.b2
        have l3 := blk_lt HF3.out.b3
        have l4 := blk_lt HF3.out.b4
        have l5 := blk_lt HF3.out.b5
        clear hT hkd hk0 HTI hkb hkl he hr
        go_upto_region 12 with (fail)
        obtain ⟨w4, hw4⟩ : ∃ w4, w4 = (w3.setCell ⟨S + 1 + 1 + 1 + 1, 1, none⟩ (.int .u8 13)).setCell ⟨S + 1 + 1 + 1 + 1, 2, none⟩ (.int .i64 (i : Int)) := ⟨_, rfl⟩
        have HF4 : Hid (FdI w S #[.slice a1 r.structs.length c1, .slice a2 r.enums.length c2, .slice a3 r.roots.length c3] f 13 (i : Int) w4) := Lib.hid (by rw [hw4]; exact (HF3.out.kind HS.out 13).ref HS.out (i : Int))
        rw [← hw4]
        clear hw4
        clear r0 r1 r2 t2 t4 t5 t6 t7 o0 o1 o2 o3 o4 of p0 p1 p2 p3 p4 pf q0 q1 qf l1 l2 l3 l4 l5
        have hR4 := HR.out.below HF4.out.below
        by_cases hdk : f.df.kind = 0
        · have hfo : fieldI r f = .ok ⟨f.name, 13, ((i : Nat) : Int), (f.ty.lists : Int), 0⟩ := by rw [HFI.out, hT2]; simp only; rw [if_pos hdk]
          have dd : decide (f.df.kind = 0) = true := decide_eq_true hdk
          have d2 : (f.df.kind == 0) = true := by rw [hdk]; rfl
          have r0 : w4.cell? ⟨S, 0, none⟩ = some (.slice a1 r.structs.length c1) := by rw [blk_cell HF4.out.b1]; rfl
          have r1 : w4.cell? ⟨S, 1, none⟩ = some (.slice a2 r.enums.length c2) := by rw [blk_cell HF4.out.b1]; rfl
          have r2 : w4.cell? ⟨S, 2, none⟩ = some (.slice a3 r.roots.length c3) := by rw [blk_cell HF4.out.b1]; rfl
          have t2 : w4.cell? ⟨S + 1, 2, none⟩ = some (.string f.ty.name) := by rw [blk_cell HF4.out.b2]; rfl
          have t4 : w4.cell? ⟨S + 1, 4, none⟩ = some (.int .i64 (f.ty.pos : Int)) := by rw [blk_cell HF4.out.b2]; rfl
          have t5 : w4.cell? ⟨S + 1, 5, none⟩ = some (.int .i64 f.df.kind) := by rw [blk_cell HF4.out.b2]; rfl
          have t6 : w4.cell? ⟨S + 1, 6, none⟩ = some (.string f.df.text) := by rw [blk_cell HF4.out.b2]; rfl
          have t7 : w4.cell? ⟨S + 1, 7, none⟩ = some (.int .i64 (f.df.pos : Int)) := by rw [blk_cell HF4.out.b2]; rfl
          have o0 : w4.cell? ⟨S + 1 + 1 + 1 + 1, 0, none⟩ = some (.string f.name) := by rw [blk_cell HF4.out.b5]; rfl
          have o1 : w4.cell? ⟨S + 1 + 1 + 1 + 1, 1, none⟩ = some (.int .u8 13) := by rw [blk_cell HF4.out.b5]; rfl
          have o2 : w4.cell? ⟨S + 1 + 1 + 1 + 1, 2, none⟩ = some (.int .i64 (i : Int)) := by rw [blk_cell HF4.out.b5]; rfl
          have o3 : w4.cell? ⟨S + 1 + 1 + 1 + 1, 3, none⟩ = some (.int .i64 (f.ty.lists : Int)) := by rw [blk_cell HF4.out.b5]; rfl
          have o4 : w4.cell? ⟨S + 1 + 1 + 1 + 1, 4, none⟩ = some (.int .u64 0) := by rw [blk_cell HF4.out.b5]; rfl
          have of := fun j => blk_frozen HF4.out.b5 j
          have p0 : w4.cell? ⟨S + 1 + 1, 0, none⟩ = some (.string ⟨#[]⟩) := by rw [blk_cell HF4.out.b3]; rfl
          have p1 : w4.cell? ⟨S + 1 + 1, 1, none⟩ = some (.int .u8 0) := by rw [blk_cell HF4.out.b3]; rfl
          have p2 : w4.cell? ⟨S + 1 + 1, 2, none⟩ = some (.int .i64 0) := by rw [blk_cell HF4.out.b3]; rfl
          have p3 : w4.cell? ⟨S + 1 + 1, 3, none⟩ = some (.int .i64 0) := by rw [blk_cell HF4.out.b3]; rfl
          have p4 : w4.cell? ⟨S + 1 + 1, 4, none⟩ = some (.int .u64 0) := by rw [blk_cell HF4.out.b3]; rfl
          have pf := fun j => blk_frozen HF4.out.b3 j
          have q0 : w4.cell? ⟨S + 1 + 1 + 1, 0, none⟩ = some (.int .i64 0) := by rw [blk_cell HF4.out.b4]; rfl
          have q1 : w4.cell? ⟨S + 1 + 1 + 1, 1, none⟩ = some (.int .i64 0) := by rw [blk_cell HF4.out.b4]; rfl
          have qf := fun j => blk_frozen HF4.out.b4 j
          have l1 := blk_lt HF4.out.b1
          have l2 := blk_lt HF4.out.b2
          have l3 := blk_lt HF4.out.b3
          have l4 := blk_lt HF4.out.b4
          have l5 := blk_lt HF4.out.b5
          go_wp2_with fail
          refine bodyPost_ret (v := .tuple #[.agg #[.string f.name, .int .u8 13, .int .i64 (i : Int), .int .i64 (f.ty.lists : Int), .int .u64 0], .agg #[.int .i64 0, .int .i64 0]]) (by simp [results, Try.results50, go_sem, *]) rfl ?_
          rw [hfo]
          refine FieldPost.mk_ok rfl ?_
          have hB := HF4.out.below
          have hS := HS.out
          (repeat' (first | (with_reducible exact Below.refl _ _) | (with_reducible assumption) | (with_reducible refine Below.alloc ?_ ?_ _) | (with_reducible refine Below.drew ?_) | (with_reducible refine Below.setCell ?_ ?_ _) | (with_reducible refine Below.trans ?_ (Below.mono (by assumption) ?_)) | go_size))
        · have dd : decide (f.df.kind = 0) = false := decide_eq_false hdk
          have d2 : (f.df.kind == 0) = false := beq_false_of_ne hdk
          have hv := value_calls r HBD.out a1 a2 a3 c1 c2 c3 13 i f.ty.lists f.df HD.out (fun h => absurd h (by decide)) w4 hR4
          (try rw [show ((0 : Nat) : Int) = 0 from rfl] at hv)
          have hfo : fieldI r f = match valueI r 13 i f.ty.lists f.df with
              | none => .error (15, f.df.pos)
              | some n => .ok ⟨f.name, 13, ((i : Nat) : Int), (f.ty.lists : Int), n⟩ := by rw [HFI.out, hT2]; simp only; rw [if_neg hdk]
          have HV := Lib.hid hv
          have HFO := Lib.hid hfo
          clear hv hfo
          have r0 : w4.cell? ⟨S, 0, none⟩ = some (.slice a1 r.structs.length c1) := by rw [blk_cell HF4.out.b1]; rfl
          have r1 : w4.cell? ⟨S, 1, none⟩ = some (.slice a2 r.enums.length c2) := by rw [blk_cell HF4.out.b1]; rfl
          have r2 : w4.cell? ⟨S, 2, none⟩ = some (.slice a3 r.roots.length c3) := by rw [blk_cell HF4.out.b1]; rfl
          have t2 : w4.cell? ⟨S + 1, 2, none⟩ = some (.string f.ty.name) := by rw [blk_cell HF4.out.b2]; rfl
          have t4 : w4.cell? ⟨S + 1, 4, none⟩ = some (.int .i64 (f.ty.pos : Int)) := by rw [blk_cell HF4.out.b2]; rfl
          have t5 : w4.cell? ⟨S + 1, 5, none⟩ = some (.int .i64 f.df.kind) := by rw [blk_cell HF4.out.b2]; rfl
          have t6 : w4.cell? ⟨S + 1, 6, none⟩ = some (.string f.df.text) := by rw [blk_cell HF4.out.b2]; rfl
          have t7 : w4.cell? ⟨S + 1, 7, none⟩ = some (.int .i64 (f.df.pos : Int)) := by rw [blk_cell HF4.out.b2]; rfl
          have o0 : w4.cell? ⟨S + 1 + 1 + 1 + 1, 0, none⟩ = some (.string f.name) := by rw [blk_cell HF4.out.b5]; rfl
          have o1 : w4.cell? ⟨S + 1 + 1 + 1 + 1, 1, none⟩ = some (.int .u8 13) := by rw [blk_cell HF4.out.b5]; rfl
          have o2 : w4.cell? ⟨S + 1 + 1 + 1 + 1, 2, none⟩ = some (.int .i64 (i : Int)) := by rw [blk_cell HF4.out.b5]; rfl
          have o3 : w4.cell? ⟨S + 1 + 1 + 1 + 1, 3, none⟩ = some (.int .i64 (f.ty.lists : Int)) := by rw [blk_cell HF4.out.b5]; rfl
          have o4 : w4.cell? ⟨S + 1 + 1 + 1 + 1, 4, none⟩ = some (.int .u64 0) := by rw [blk_cell HF4.out.b5]; rfl
          have of := fun j => blk_frozen HF4.out.b5 j
          have p0 : w4.cell? ⟨S + 1 + 1, 0, none⟩ = some (.string ⟨#[]⟩) := by rw [blk_cell HF4.out.b3]; rfl
          have p1 : w4.cell? ⟨S + 1 + 1, 1, none⟩ = some (.int .u8 0) := by rw [blk_cell HF4.out.b3]; rfl
          have p2 : w4.cell? ⟨S + 1 + 1, 2, none⟩ = some (.int .i64 0) := by rw [blk_cell HF4.out.b3]; rfl
          have p3 : w4.cell? ⟨S + 1 + 1, 3, none⟩ = some (.int .i64 0) := by rw [blk_cell HF4.out.b3]; rfl
          have p4 : w4.cell? ⟨S + 1 + 1, 4, none⟩ = some (.int .u64 0) := by rw [blk_cell HF4.out.b3]; rfl
          have pf := fun j => blk_frozen HF4.out.b3 j
          have q0 : w4.cell? ⟨S + 1 + 1 + 1, 0, none⟩ = some (.int .i64 0) := by rw [blk_cell HF4.out.b4]; rfl
          have q1 : w4.cell? ⟨S + 1 + 1 + 1, 1, none⟩ = some (.int .i64 0) := by rw [blk_cell HF4.out.b4]; rfl
          have qf := fun j => blk_frozen HF4.out.b4 j
          have l1 := blk_lt HF4.out.b1
          have l2 := blk_lt HF4.out.b2
          have l3 := blk_lt HF4.out.b3
          have l4 := blk_lt HF4.out.b4
          have l5 := blk_lt HF4.out.b5
          go_wp2_with fail
          clear r0 r1 r2 t2 t4 t5 t6 t7 o0 o1 o2 o3 o4 of p0 p1 p2 p3 p4 pf q0 q1 qf l1 l2 l3 l4 l5
          refine HV.out.mono ?_
          rintro e w5 ⟨⟨n, rfl, hn⟩, hB5⟩
          have HF5' := Lib.hid (HF4.out.run hB5)
          clear hB5 HV
          generalize valueI r 13 i f.ty.lists f.df = val at *
          have r0 : w5.cell? ⟨S, 0, none⟩ = some (.slice a1 r.structs.length c1) := by rw [blk_cell HF5'.out.b1]; rfl
          have r1 : w5.cell? ⟨S, 1, none⟩ = some (.slice a2 r.enums.length c2) := by rw [blk_cell HF5'.out.b1]; rfl
          have r2 : w5.cell? ⟨S, 2, none⟩ = some (.slice a3 r.roots.length c3) := by rw [blk_cell HF5'.out.b1]; rfl
          have t2 : w5.cell? ⟨S + 1, 2, none⟩ = some (.string f.ty.name) := by rw [blk_cell HF5'.out.b2]; rfl
          have t4 : w5.cell? ⟨S + 1, 4, none⟩ = some (.int .i64 (f.ty.pos : Int)) := by rw [blk_cell HF5'.out.b2]; rfl
          have t5 : w5.cell? ⟨S + 1, 5, none⟩ = some (.int .i64 f.df.kind) := by rw [blk_cell HF5'.out.b2]; rfl
          have t6 : w5.cell? ⟨S + 1, 6, none⟩ = some (.string f.df.text) := by rw [blk_cell HF5'.out.b2]; rfl
          have t7 : w5.cell? ⟨S + 1, 7, none⟩ = some (.int .i64 (f.df.pos : Int)) := by rw [blk_cell HF5'.out.b2]; rfl
          have o0 : w5.cell? ⟨S + 1 + 1 + 1 + 1, 0, none⟩ = some (.string f.name) := by rw [blk_cell HF5'.out.b5]; rfl
          have o1 : w5.cell? ⟨S + 1 + 1 + 1 + 1, 1, none⟩ = some (.int .u8 13) := by rw [blk_cell HF5'.out.b5]; rfl
          have o2 : w5.cell? ⟨S + 1 + 1 + 1 + 1, 2, none⟩ = some (.int .i64 (i : Int)) := by rw [blk_cell HF5'.out.b5]; rfl
          have o3 : w5.cell? ⟨S + 1 + 1 + 1 + 1, 3, none⟩ = some (.int .i64 (f.ty.lists : Int)) := by rw [blk_cell HF5'.out.b5]; rfl
          have o4 : w5.cell? ⟨S + 1 + 1 + 1 + 1, 4, none⟩ = some (.int .u64 0) := by rw [blk_cell HF5'.out.b5]; rfl
          have of := fun j => blk_frozen HF5'.out.b5 j
          have p0 : w5.cell? ⟨S + 1 + 1, 0, none⟩ = some (.string ⟨#[]⟩) := by rw [blk_cell HF5'.out.b3]; rfl
          have p1 : w5.cell? ⟨S + 1 + 1, 1, none⟩ = some (.int .u8 0) := by rw [blk_cell HF5'.out.b3]; rfl
          have p2 : w5.cell? ⟨S + 1 + 1, 2, none⟩ = some (.int .i64 0) := by rw [blk_cell HF5'.out.b3]; rfl
          have p3 : w5.cell? ⟨S + 1 + 1, 3, none⟩ = some (.int .i64 0) := by rw [blk_cell HF5'.out.b3]; rfl
          have p4 : w5.cell? ⟨S + 1 + 1, 4, none⟩ = some (.int .u64 0) := by rw [blk_cell HF5'.out.b3]; rfl
          have pf := fun j => blk_frozen HF5'.out.b3 j
          have q0 : w5.cell? ⟨S + 1 + 1 + 1, 0, none⟩ = some (.int .i64 0) := by rw [blk_cell HF5'.out.b4]; rfl
          have q1 : w5.cell? ⟨S + 1 + 1 + 1, 1, none⟩ = some (.int .i64 0) := by rw [blk_cell HF5'.out.b4]; rfl
          have qf := fun j => blk_frozen HF5'.out.b4 j
          have l1 := blk_lt HF5'.out.b1
          have l2 := blk_lt HF5'.out.b2
          have l3 := blk_lt HF5'.out.b3
          have l4 := blk_lt HF5'.out.b4
          have l5 := blk_lt HF5'.out.b5
          cases val with
          | none =>
            have hfo := HFO.out
            simp only at hfo
            have HFO2 := Lib.hid hfo
            clear hfo hn
            go_wp2_with fail
            go_region
            all_goals (try go_wp2_with fail)
            all_goals refine bodyPost_ret (v := .tuple #[.agg #[.string ⟨#[]⟩, .int .u8 0, .int .i64 0, .int .i64 0, .int .u64 0], .agg #[.int .i64 15, .int .i64 (f.df.pos : Int)]]) (by simp [results, Try.results50, go_sem, *]) rfl ?_
            all_goals rw [HFO2.out]
            all_goals refine FieldPost.mk_err rfl ?_
            all_goals have hB := HF5'.out.below
            all_goals have hS := HS.out
            all_goals (repeat' (first | (with_reducible exact Below.refl _ _) | (with_reducible assumption) | (with_reducible refine below_drewN ?_ _) | (with_reducible refine Below.alloc ?_ ?_ _) | (with_reducible refine Below.drew ?_) | (with_reducible refine Below.setCell ?_ ?_ _) | (with_reducible refine Below.trans ?_ (Below.mono (by assumption) ?_)) | go_size))
          | some x =>
            obtain rfl := hn x rfl
            have hfo := HFO.out
            simp only at hfo
            have HFO2 := Lib.hid hfo
            clear hfo hn
            go_wp2_with fail
            refine bodyPost_ret (v := .tuple #[.agg #[.string f.name, .int .u8 13, .int .i64 (i : Int), .int .i64 (f.ty.lists : Int), .int .u64 n], .agg #[.int .i64 0, .int .i64 0]]) (by simp [results, Try.results50, go_sem, *]) rfl ?_
            rw [HFO2.out]
            refine FieldPost.mk_ok rfl ?_
            have hB := HF5'.out.below
            have hS := HS.out
            (repeat' (first | (with_reducible exact Below.refl _ _) | (with_reducible assumption) | (with_reducible refine Below.alloc ?_ ?_ _) | (with_reducible refine Below.drew ?_) | (with_reducible refine Below.setCell ?_ ?_ _) | (with_reducible refine Below.trans ?_ (Below.mono (by assumption) ?_)) | go_size))
      | none =>
        have hT2 : typeI r f.ty.name = none := by rw [hT, he]; simp only; rw [hr]
        rw [show ixV none = -1 from rfl]
        have r0 : w3.cell? ⟨S, 0, none⟩ = some (.slice a1 r.structs.length c1) := by rw [blk_cell HF3.out.b1]; rfl
        have r1 : w3.cell? ⟨S, 1, none⟩ = some (.slice a2 r.enums.length c2) := by rw [blk_cell HF3.out.b1]; rfl
        have r2 : w3.cell? ⟨S, 2, none⟩ = some (.slice a3 r.roots.length c3) := by rw [blk_cell HF3.out.b1]; rfl
        have t2 : w3.cell? ⟨S + 1, 2, none⟩ = some (.string f.ty.name) := by rw [blk_cell HF3.out.b2]; rfl
        have t4 : w3.cell? ⟨S + 1, 4, none⟩ = some (.int .i64 (f.ty.pos : Int)) := by rw [blk_cell HF3.out.b2]; rfl
        have t5 : w3.cell? ⟨S + 1, 5, none⟩ = some (.int .i64 f.df.kind) := by rw [blk_cell HF3.out.b2]; rfl
        have t6 : w3.cell? ⟨S + 1, 6, none⟩ = some (.string f.df.text) := by rw [blk_cell HF3.out.b2]; rfl
        have t7 : w3.cell? ⟨S + 1, 7, none⟩ = some (.int .i64 (f.df.pos : Int)) := by rw [blk_cell HF3.out.b2]; rfl
        have o0 : w3.cell? ⟨S + 1 + 1 + 1 + 1, 0, none⟩ = some (.string f.name) := by rw [blk_cell HF3.out.b5]; rfl
        have o1 : w3.cell? ⟨S + 1 + 1 + 1 + 1, 1, none⟩ = some (.int .u8 0) := by rw [blk_cell HF3.out.b5]; rfl
        have o2 : w3.cell? ⟨S + 1 + 1 + 1 + 1, 2, none⟩ = some (.int .i64 0) := by rw [blk_cell HF3.out.b5]; rfl
        have o3 : w3.cell? ⟨S + 1 + 1 + 1 + 1, 3, none⟩ = some (.int .i64 (f.ty.lists : Int)) := by rw [blk_cell HF3.out.b5]; rfl
        have o4 : w3.cell? ⟨S + 1 + 1 + 1 + 1, 4, none⟩ = some (.int .u64 0) := by rw [blk_cell HF3.out.b5]; rfl
        have of := fun j => blk_frozen HF3.out.b5 j
        have p0 : w3.cell? ⟨S + 1 + 1, 0, none⟩ = some (.string ⟨#[]⟩) := by rw [blk_cell HF3.out.b3]; rfl
        have p1 : w3.cell? ⟨S + 1 + 1, 1, none⟩ = some (.int .u8 0) := by rw [blk_cell HF3.out.b3]; rfl
        have p2 : w3.cell? ⟨S + 1 + 1, 2, none⟩ = some (.int .i64 0) := by rw [blk_cell HF3.out.b3]; rfl
        have p3 : w3.cell? ⟨S + 1 + 1, 3, none⟩ = some (.int .i64 0) := by rw [blk_cell HF3.out.b3]; rfl
        have p4 : w3.cell? ⟨S + 1 + 1, 4, none⟩ = some (.int .u64 0) := by rw [blk_cell HF3.out.b3]; rfl
        have pf := fun j => blk_frozen HF3.out.b3 j
        have q0 : w3.cell? ⟨S + 1 + 1 + 1, 0, none⟩ = some (.int .i64 0) := by rw [blk_cell HF3.out.b4]; rfl
        have q1 : w3.cell? ⟨S + 1 + 1 + 1, 1, none⟩ = some (.int .i64 0) := by rw [blk_cell HF3.out.b4]; rfl
        have qf := fun j => blk_frozen HF3.out.b4 j
        have l1 := blk_lt HF3.out.b1
        have l2 := blk_lt HF3.out.b2
        have l3 := blk_lt HF3.out.b3
        have l4 := blk_lt HF3.out.b4
        have l5 := blk_lt HF3.out.b5
        clear hT hkd hk0 HTI hkb hkl he hr
        go_upto_region 5 with (fail)
        have hfo : fieldI r f = .error (14, f.ty.pos) := by rw [HFI.out, hT2]
        have HFO2 := Lib.hid hfo
        clear hfo
        go_region
        all_goals (try go_wp2_with fail)
        all_goals refine bodyPost_ret (v := .tuple #[.agg #[.string ⟨#[]⟩, .int .u8 0, .int .i64 0, .int .i64 0, .int .u64 0], .agg #[.int .i64 14, .int .i64 (f.ty.pos : Int)]]) (by simp [results, Try.results50, go_sem, *]) rfl ?_
        all_goals rw [HFO2.out]
        all_goals refine FieldPost.mk_err rfl ?_
        all_goals have hB := HF3.out.below
        all_goals have hS := HS.out
        all_goals (repeat' (first | (with_reducible exact Below.refl _ _) | (with_reducible assumption) | (with_reducible refine below_drewN ?_ _) | (with_reducible refine Below.alloc ?_ ?_ _) | (with_reducible refine Below.drew ?_) | (with_reducible refine Below.setCell ?_ ?_ _) | (with_reducible refine Below.trans ?_ (Below.mono (by assumption) ?_)) | go_size))
  · have dk : decide (basicK f.ty.name = 0) = false := decide_eq_false hk0
    have hT2 : typeI r f.ty.name = some ((basicK f.ty.name : Int), 0) := by rw [HTI.out, if_pos hk0]
    have hkd2 := hkd hk0
    subst hkd2
    have r0 : w3.cell? ⟨S, 0, none⟩ = some (.slice a1 r.structs.length c1) := by rw [blk_cell HF3.out.b1]; rfl
    have r1 : w3.cell? ⟨S, 1, none⟩ = some (.slice a2 r.enums.length c2) := by rw [blk_cell HF3.out.b1]; rfl
    have r2 : w3.cell? ⟨S, 2, none⟩ = some (.slice a3 r.roots.length c3) := by rw [blk_cell HF3.out.b1]; rfl
    have t2 : w3.cell? ⟨S + 1, 2, none⟩ = some (.string f.ty.name) := by rw [blk_cell HF3.out.b2]; rfl
    have t4 : w3.cell? ⟨S + 1, 4, none⟩ = some (.int .i64 (f.ty.pos : Int)) := by rw [blk_cell HF3.out.b2]; rfl
    have t5 : w3.cell? ⟨S + 1, 5, none⟩ = some (.int .i64 f.df.kind) := by rw [blk_cell HF3.out.b2]; rfl
    have t6 : w3.cell? ⟨S + 1, 6, none⟩ = some (.string f.df.text) := by rw [blk_cell HF3.out.b2]; rfl
    have t7 : w3.cell? ⟨S + 1, 7, none⟩ = some (.int .i64 (f.df.pos : Int)) := by rw [blk_cell HF3.out.b2]; rfl
    have o0 : w3.cell? ⟨S + 1 + 1 + 1 + 1, 0, none⟩ = some (.string f.name) := by rw [blk_cell HF3.out.b5]; rfl
    have o1 : w3.cell? ⟨S + 1 + 1 + 1 + 1, 1, none⟩ = some (.int .u8 0) := by rw [blk_cell HF3.out.b5]; rfl
    have o2 : w3.cell? ⟨S + 1 + 1 + 1 + 1, 2, none⟩ = some (.int .i64 0) := by rw [blk_cell HF3.out.b5]; rfl
    have o3 : w3.cell? ⟨S + 1 + 1 + 1 + 1, 3, none⟩ = some (.int .i64 (f.ty.lists : Int)) := by rw [blk_cell HF3.out.b5]; rfl
    have o4 : w3.cell? ⟨S + 1 + 1 + 1 + 1, 4, none⟩ = some (.int .u64 0) := by rw [blk_cell HF3.out.b5]; rfl
    have of := fun j => blk_frozen HF3.out.b5 j
    have p0 : w3.cell? ⟨S + 1 + 1, 0, none⟩ = some (.string ⟨#[]⟩) := by rw [blk_cell HF3.out.b3]; rfl
    have p1 : w3.cell? ⟨S + 1 + 1, 1, none⟩ = some (.int .u8 0) := by rw [blk_cell HF3.out.b3]; rfl
    have p2 : w3.cell? ⟨S + 1 + 1, 2, none⟩ = some (.int .i64 0) := by rw [blk_cell HF3.out.b3]; rfl
    have p3 : w3.cell? ⟨S + 1 + 1, 3, none⟩ = some (.int .i64 0) := by rw [blk_cell HF3.out.b3]; rfl
    have p4 : w3.cell? ⟨S + 1 + 1, 4, none⟩ = some (.int .u64 0) := by rw [blk_cell HF3.out.b3]; rfl
    have pf := fun j => blk_frozen HF3.out.b3 j
    have q0 : w3.cell? ⟨S + 1 + 1 + 1, 0, none⟩ = some (.int .i64 0) := by rw [blk_cell HF3.out.b4]; rfl
    have q1 : w3.cell? ⟨S + 1 + 1 + 1, 1, none⟩ = some (.int .i64 0) := by rw [blk_cell HF3.out.b4]; rfl
    have qf := fun j => blk_frozen HF3.out.b4 j
    have l1 := blk_lt HF3.out.b1
    have l2 := blk_lt HF3.out.b2
    have l3 := blk_lt HF3.out.b3
    have l4 := blk_lt HF3.out.b4
    have l5 := blk_lt HF3.out.b5
    clear HTI
    go_upto_region 12 with (fail)
    obtain ⟨w4, hw4⟩ : ∃ w4, w4 = w3.setCell ⟨S + 1 + 1 + 1 + 1, 1, none⟩ (.int .u8 (basicK f.ty.name : Int)) := ⟨_, rfl⟩
    have HF4 : Hid (FdI w S #[.slice a1 r.structs.length c1, .slice a2 r.enums.length c2, .slice a3 r.roots.length c3] f (basicK f.ty.name : Int) 0 w4) := Lib.hid (by rw [hw4]; exact HF3.out.kind HS.out (basicK f.ty.name : Int))
    rw [← hw4]
    clear hw4
    clear r0 r1 r2 t2 t4 t5 t6 t7 o0 o1 o2 o3 o4 of p0 p1 p2 p3 p4 pf q0 q1 qf l1 l2 l3 l4 l5
    have hR4 := HR.out.below HF4.out.below
    by_cases hdk : f.df.kind = 0
    · have hfo : fieldI r f = .ok ⟨f.name, (basicK f.ty.name : Int), ((0 : Nat) : Int), (f.ty.lists : Int), 0⟩ := by rw [HFI.out, hT2]; simp only; rw [if_pos hdk]
      have dd : decide (f.df.kind = 0) = true := decide_eq_true hdk
      have d2 : (f.df.kind == 0) = true := by rw [hdk]; rfl
      have r0 : w4.cell? ⟨S, 0, none⟩ = some (.slice a1 r.structs.length c1) := by rw [blk_cell HF4.out.b1]; rfl
      have r1 : w4.cell? ⟨S, 1, none⟩ = some (.slice a2 r.enums.length c2) := by rw [blk_cell HF4.out.b1]; rfl
      have r2 : w4.cell? ⟨S, 2, none⟩ = some (.slice a3 r.roots.length c3) := by rw [blk_cell HF4.out.b1]; rfl
      have t2 : w4.cell? ⟨S + 1, 2, none⟩ = some (.string f.ty.name) := by rw [blk_cell HF4.out.b2]; rfl
      have t4 : w4.cell? ⟨S + 1, 4, none⟩ = some (.int .i64 (f.ty.pos : Int)) := by rw [blk_cell HF4.out.b2]; rfl
      have t5 : w4.cell? ⟨S + 1, 5, none⟩ = some (.int .i64 f.df.kind) := by rw [blk_cell HF4.out.b2]; rfl
      have t6 : w4.cell? ⟨S + 1, 6, none⟩ = some (.string f.df.text) := by rw [blk_cell HF4.out.b2]; rfl
      have t7 : w4.cell? ⟨S + 1, 7, none⟩ = some (.int .i64 (f.df.pos : Int)) := by rw [blk_cell HF4.out.b2]; rfl
      have o0 : w4.cell? ⟨S + 1 + 1 + 1 + 1, 0, none⟩ = some (.string f.name) := by rw [blk_cell HF4.out.b5]; rfl
      have o1 : w4.cell? ⟨S + 1 + 1 + 1 + 1, 1, none⟩ = some (.int .u8 (basicK f.ty.name : Int)) := by rw [blk_cell HF4.out.b5]; rfl
      have o2 : w4.cell? ⟨S + 1 + 1 + 1 + 1, 2, none⟩ = some (.int .i64 0) := by rw [blk_cell HF4.out.b5]; rfl
      have o3 : w4.cell? ⟨S + 1 + 1 + 1 + 1, 3, none⟩ = some (.int .i64 (f.ty.lists : Int)) := by rw [blk_cell HF4.out.b5]; rfl
      have o4 : w4.cell? ⟨S + 1 + 1 + 1 + 1, 4, none⟩ = some (.int .u64 0) := by rw [blk_cell HF4.out.b5]; rfl
      have of := fun j => blk_frozen HF4.out.b5 j
      have p0 : w4.cell? ⟨S + 1 + 1, 0, none⟩ = some (.string ⟨#[]⟩) := by rw [blk_cell HF4.out.b3]; rfl
      have p1 : w4.cell? ⟨S + 1 + 1, 1, none⟩ = some (.int .u8 0) := by rw [blk_cell HF4.out.b3]; rfl
      have p2 : w4.cell? ⟨S + 1 + 1, 2, none⟩ = some (.int .i64 0) := by rw [blk_cell HF4.out.b3]; rfl
      have p3 : w4.cell? ⟨S + 1 + 1, 3, none⟩ = some (.int .i64 0) := by rw [blk_cell HF4.out.b3]; rfl
      have p4 : w4.cell? ⟨S + 1 + 1, 4, none⟩ = some (.int .u64 0) := by rw [blk_cell HF4.out.b3]; rfl
      have pf := fun j => blk_frozen HF4.out.b3 j
      have q0 : w4.cell? ⟨S + 1 + 1 + 1, 0, none⟩ = some (.int .i64 0) := by rw [blk_cell HF4.out.b4]; rfl
      have q1 : w4.cell? ⟨S + 1 + 1 + 1, 1, none⟩ = some (.int .i64 0) := by rw [blk_cell HF4.out.b4]; rfl
      have qf := fun j => blk_frozen HF4.out.b4 j
      have l1 := blk_lt HF4.out.b1
      have l2 := blk_lt HF4.out.b2
      have l3 := blk_lt HF4.out.b3
      have l4 := blk_lt HF4.out.b4
      have l5 := blk_lt HF4.out.b5
      go_wp2_with fail
      refine bodyPost_ret (v := .tuple #[.agg #[.string f.name, .int .u8 (basicK f.ty.name : Int), .int .i64 0, .int .i64 (f.ty.lists : Int), .int .u64 0], .agg #[.int .i64 0, .int .i64 0]]) (by simp [results, Try.results50, go_sem, *]) rfl ?_
      rw [hfo]
      refine FieldPost.mk_ok rfl ?_
      have hB := HF4.out.below
      have hS := HS.out
      (repeat' (first | (with_reducible exact Below.refl _ _) | (with_reducible assumption) | (with_reducible refine Below.alloc ?_ ?_ _) | (with_reducible refine Below.drew ?_) | (with_reducible refine Below.setCell ?_ ?_ _) | (with_reducible refine Below.trans ?_ (Below.mono (by assumption) ?_)) | go_size))
    · have dd : decide (f.df.kind = 0) = false := decide_eq_false hdk
      have d2 : (f.df.kind == 0) = false := beq_false_of_ne hdk
      have hv := value_calls r HBD.out a1 a2 a3 c1 c2 c3 (basicK f.ty.name : Int) 0 f.ty.lists f.df HD.out (fun h => absurd h (by omega)) w4 hR4
      (try rw [show ((0 : Nat) : Int) = 0 from rfl] at hv)
      have hfo : fieldI r f = match valueI r (basicK f.ty.name : Int) 0 f.ty.lists f.df with
          | none => .error (15, f.df.pos)
          | some n => .ok ⟨f.name, (basicK f.ty.name : Int), ((0 : Nat) : Int), (f.ty.lists : Int), n⟩ := by rw [HFI.out, hT2]; simp only; rw [if_neg hdk]
      have HV := Lib.hid hv
      have HFO := Lib.hid hfo
      clear hv hfo
      have r0 : w4.cell? ⟨S, 0, none⟩ = some (.slice a1 r.structs.length c1) := by rw [blk_cell HF4.out.b1]; rfl
      have r1 : w4.cell? ⟨S, 1, none⟩ = some (.slice a2 r.enums.length c2) := by rw [blk_cell HF4.out.b1]; rfl
      have r2 : w4.cell? ⟨S, 2, none⟩ = some (.slice a3 r.roots.length c3) := by rw [blk_cell HF4.out.b1]; rfl
      have t2 : w4.cell? ⟨S + 1, 2, none⟩ = some (.string f.ty.name) := by rw [blk_cell HF4.out.b2]; rfl
      have t4 : w4.cell? ⟨S + 1, 4, none⟩ = some (.int .i64 (f.ty.pos : Int)) := by rw [blk_cell HF4.out.b2]; rfl
      have t5 : w4.cell? ⟨S + 1, 5, none⟩ = some (.int .i64 f.df.kind) := by rw [blk_cell HF4.out.b2]; rfl
      have t6 : w4.cell? ⟨S + 1, 6, none⟩ = some (.string f.df.text) := by rw [blk_cell HF4.out.b2]; rfl
      have t7 : w4.cell? ⟨S + 1, 7, none⟩ = some (.int .i64 (f.df.pos : Int)) := by rw [blk_cell HF4.out.b2]; rfl
      have o0 : w4.cell? ⟨S + 1 + 1 + 1 + 1, 0, none⟩ = some (.string f.name) := by rw [blk_cell HF4.out.b5]; rfl
      have o1 : w4.cell? ⟨S + 1 + 1 + 1 + 1, 1, none⟩ = some (.int .u8 (basicK f.ty.name : Int)) := by rw [blk_cell HF4.out.b5]; rfl
      have o2 : w4.cell? ⟨S + 1 + 1 + 1 + 1, 2, none⟩ = some (.int .i64 0) := by rw [blk_cell HF4.out.b5]; rfl
      have o3 : w4.cell? ⟨S + 1 + 1 + 1 + 1, 3, none⟩ = some (.int .i64 (f.ty.lists : Int)) := by rw [blk_cell HF4.out.b5]; rfl
      have o4 : w4.cell? ⟨S + 1 + 1 + 1 + 1, 4, none⟩ = some (.int .u64 0) := by rw [blk_cell HF4.out.b5]; rfl
      have of := fun j => blk_frozen HF4.out.b5 j
      have p0 : w4.cell? ⟨S + 1 + 1, 0, none⟩ = some (.string ⟨#[]⟩) := by rw [blk_cell HF4.out.b3]; rfl
      have p1 : w4.cell? ⟨S + 1 + 1, 1, none⟩ = some (.int .u8 0) := by rw [blk_cell HF4.out.b3]; rfl
      have p2 : w4.cell? ⟨S + 1 + 1, 2, none⟩ = some (.int .i64 0) := by rw [blk_cell HF4.out.b3]; rfl
      have p3 : w4.cell? ⟨S + 1 + 1, 3, none⟩ = some (.int .i64 0) := by rw [blk_cell HF4.out.b3]; rfl
      have p4 : w4.cell? ⟨S + 1 + 1, 4, none⟩ = some (.int .u64 0) := by rw [blk_cell HF4.out.b3]; rfl
      have pf := fun j => blk_frozen HF4.out.b3 j
      have q0 : w4.cell? ⟨S + 1 + 1 + 1, 0, none⟩ = some (.int .i64 0) := by rw [blk_cell HF4.out.b4]; rfl
      have q1 : w4.cell? ⟨S + 1 + 1 + 1, 1, none⟩ = some (.int .i64 0) := by rw [blk_cell HF4.out.b4]; rfl
      have qf := fun j => blk_frozen HF4.out.b4 j
      have l1 := blk_lt HF4.out.b1
      have l2 := blk_lt HF4.out.b2
      have l3 := blk_lt HF4.out.b3
      have l4 := blk_lt HF4.out.b4
      have l5 := blk_lt HF4.out.b5
      go_wp2_with fail
      clear r0 r1 r2 t2 t4 t5 t6 t7 o0 o1 o2 o3 o4 of p0 p1 p2 p3 p4 pf q0 q1 qf l1 l2 l3 l4 l5
      refine HV.out.mono ?_
      rintro e w5 ⟨⟨n, rfl, hn⟩, hB5⟩
      have HF5' := Lib.hid (HF4.out.run hB5)
      clear hB5 HV
      generalize valueI r (basicK f.ty.name : Int) 0 f.ty.lists f.df = val at *
      have r0 : w5.cell? ⟨S, 0, none⟩ = some (.slice a1 r.structs.length c1) := by rw [blk_cell HF5'.out.b1]; rfl
      have r1 : w5.cell? ⟨S, 1, none⟩ = some (.slice a2 r.enums.length c2) := by rw [blk_cell HF5'.out.b1]; rfl
      have r2 : w5.cell? ⟨S, 2, none⟩ = some (.slice a3 r.roots.length c3) := by rw [blk_cell HF5'.out.b1]; rfl
      have t2 : w5.cell? ⟨S + 1, 2, none⟩ = some (.string f.ty.name) := by rw [blk_cell HF5'.out.b2]; rfl
      have t4 : w5.cell? ⟨S + 1, 4, none⟩ = some (.int .i64 (f.ty.pos : Int)) := by rw [blk_cell HF5'.out.b2]; rfl
      have t5 : w5.cell? ⟨S + 1, 5, none⟩ = some (.int .i64 f.df.kind) := by rw [blk_cell HF5'.out.b2]; rfl
      have t6 : w5.cell? ⟨S + 1, 6, none⟩ = some (.string f.df.text) := by rw [blk_cell HF5'.out.b2]; rfl
      have t7 : w5.cell? ⟨S + 1, 7, none⟩ = some (.int .i64 (f.df.pos : Int)) := by rw [blk_cell HF5'.out.b2]; rfl
      have o0 : w5.cell? ⟨S + 1 + 1 + 1 + 1, 0, none⟩ = some (.string f.name) := by rw [blk_cell HF5'.out.b5]; rfl
      have o1 : w5.cell? ⟨S + 1 + 1 + 1 + 1, 1, none⟩ = some (.int .u8 (basicK f.ty.name : Int)) := by rw [blk_cell HF5'.out.b5]; rfl
      have o2 : w5.cell? ⟨S + 1 + 1 + 1 + 1, 2, none⟩ = some (.int .i64 0) := by rw [blk_cell HF5'.out.b5]; rfl
      have o3 : w5.cell? ⟨S + 1 + 1 + 1 + 1, 3, none⟩ = some (.int .i64 (f.ty.lists : Int)) := by rw [blk_cell HF5'.out.b5]; rfl
      have o4 : w5.cell? ⟨S + 1 + 1 + 1 + 1, 4, none⟩ = some (.int .u64 0) := by rw [blk_cell HF5'.out.b5]; rfl
      have of := fun j => blk_frozen HF5'.out.b5 j
      have p0 : w5.cell? ⟨S + 1 + 1, 0, none⟩ = some (.string ⟨#[]⟩) := by rw [blk_cell HF5'.out.b3]; rfl
      have p1 : w5.cell? ⟨S + 1 + 1, 1, none⟩ = some (.int .u8 0) := by rw [blk_cell HF5'.out.b3]; rfl
      have p2 : w5.cell? ⟨S + 1 + 1, 2, none⟩ = some (.int .i64 0) := by rw [blk_cell HF5'.out.b3]; rfl
      have p3 : w5.cell? ⟨S + 1 + 1, 3, none⟩ = some (.int .i64 0) := by rw [blk_cell HF5'.out.b3]; rfl
      have p4 : w5.cell? ⟨S + 1 + 1, 4, none⟩ = some (.int .u64 0) := by rw [blk_cell HF5'.out.b3]; rfl
      have pf := fun j => blk_frozen HF5'.out.b3 j
      have q0 : w5.cell? ⟨S + 1 + 1 + 1, 0, none⟩ = some (.int .i64 0) := by rw [blk_cell HF5'.out.b4]; rfl
      have q1 : w5.cell? ⟨S + 1 + 1 + 1, 1, none⟩ = some (.int .i64 0) := by rw [blk_cell HF5'.out.b4]; rfl
      have qf := fun j => blk_frozen HF5'.out.b4 j
      have l1 := blk_lt HF5'.out.b1
      have l2 := blk_lt HF5'.out.b2
      have l3 := blk_lt HF5'.out.b3
      have l4 := blk_lt HF5'.out.b4
      have l5 := blk_lt HF5'.out.b5
      cases val with
      | none =>
        have hfo := HFO.out
        simp only at hfo
        have HFO2 := Lib.hid hfo
        clear hfo hn
        go_wp2_with fail
        go_region
        all_goals (try go_wp2_with fail)
        all_goals refine bodyPost_ret (v := .tuple #[.agg #[.string ⟨#[]⟩, .int .u8 0, .int .i64 0, .int .i64 0, .int .u64 0], .agg #[.int .i64 15, .int .i64 (f.df.pos : Int)]]) (by simp [results, Try.results50, go_sem, *]) rfl ?_
        all_goals rw [HFO2.out]
        all_goals refine FieldPost.mk_err rfl ?_
        all_goals have hB := HF5'.out.below
        all_goals have hS := HS.out
        all_goals (repeat' (first | (with_reducible exact Below.refl _ _) | (with_reducible assumption) | (with_reducible refine below_drewN ?_ _) | (with_reducible refine Below.alloc ?_ ?_ _) | (with_reducible refine Below.drew ?_) | (with_reducible refine Below.setCell ?_ ?_ _) | (with_reducible refine Below.trans ?_ (Below.mono (by assumption) ?_)) | go_size))
      | some x =>
        obtain rfl := hn x rfl
        have hfo := HFO.out
        simp only at hfo
        have HFO2 := Lib.hid hfo
        clear hfo hn
        go_wp2_with fail
        refine bodyPost_ret (v := .tuple #[.agg #[.string f.name, .int .u8 (basicK f.ty.name : Int), .int .i64 0, .int .i64 (f.ty.lists : Int), .int .u64 n], .agg #[.int .i64 0, .int .i64 0]]) (by simp [results, Try.results50, go_sem, *]) rfl ?_
        rw [HFO2.out]
        refine FieldPost.mk_ok rfl ?_
        have hB := HF5'.out.below
        have hS := HS.out
        (repeat' (first | (with_reducible exact Below.refl _ _) | (with_reducible assumption) | (with_reducible refine Below.alloc ?_ ?_ _) | (with_reducible refine Below.drew ?_) | (with_reducible refine Below.setCell ?_ ?_ _) | (with_reducible refine Below.trans ?_ (Below.mono (by assumption) ?_)) | go_size))

end Go.Proofs.Ytgoaiokpnifhfaa
