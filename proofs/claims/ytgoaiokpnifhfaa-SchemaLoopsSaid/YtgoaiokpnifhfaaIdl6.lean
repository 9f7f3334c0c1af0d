/-
  Layer 4: a struct.
-/
import Derived.Test.YtgoaiokpnifhfaaIdl5
namespace Go.Proofs.Ytgoaiokpnifhfaa
open Go.RowKit
set_option linter.unusedVariables false
set_option linter.unusedSimpArgs false

set_option maxRecDepth 100000 in
theorem enters_field : Enters 45 := fun _ _ => rfl

theorem rec_ser {w0 : World} {P g cap : Nat} {l : List Tok} {B O : Nat} (nm : ByteArray) (ps : Nat) (K : Places w0 P g B O) (hE : Ended l) :
    SerOf 45 #[.pointer (some ⟨B, 0, none⟩), .pointer (some ⟨O, 0, none⟩)] P g cap l (fieldS l) (fieldV l) (fun σ acc w => ∃ v, RecI w0 P g cap l B O nm ps v σ acc w) where
  ent := enters_field
  move := fun σ h => fieldS_moves hE h
  par := fun σ acc w h => by obtain ⟨v, h⟩ := h; exact h.post.par
  step := fun σ acc w τ w' h h2 => by obtain ⟨v, h⟩ := h; exact ⟨v, h.step K h2⟩
  calls := fun σ acc w h0 hal h => by obtain ⟨v, h⟩ := h; exact field_calls w0 P g cap l B O nm ps v σ acc w K hal h

/-- what a struct's reading comes to -/
def RecPost (w : World) (P g cap : Nat) (l : List Tok) (σ : PS) (e : Ending) (w' : World) : Prop :=
  ∃ v, e = .returned (.agg #[.string (recV l σ).name, .int .i64 ((recV l σ).pos : Int), v]) ∧ w'.ownsRow w.heap.size 43 8 v (recV l σ).fields.length (fldCells (recV l σ).fields) ∧ ParPost w P g cap l (recS l σ) w'

set_option maxHeartbeats 2000000 in
set_option maxRecDepth 100000 in
theorem record_calls (P g cap : Nat) (l : List Tok) (σ : PS) (w : World) (h : ParAt w P g cap l σ) :
    Calls Try.prog 26 #[.pointer (some ⟨P, 0, none⟩)] w (RecPost w P g cap l σ) := by
  have lP := blk_lt h.blk
  have lg := h.toks.lt h.ended.1
  have HE := Lib.hid h.ended
  have H := Lib.hid h
  have hn := fun (W : World) (h : ParAt W P g cap l σ) => name_calls P g cap l σ false W h
  have HN := Lib.hid hn
  clear h hn
  go_enter Try.func26, Try.ntmps26
  go_wp2_with fail
  obtain ⟨B, hB⟩ : ∃ B, B = w.heap.size := ⟨_, rfl⟩
  obtain ⟨W, hW⟩ : ∃ W, W = (w.alloc (Obj.cells #[Value.pointer (some ⟨P, 0, none⟩)] 59)).alloc (Obj.cells #[Value.string ⟨#[]⟩, Value.int .i64 0, Value.slice none 0 0] 35) := ⟨_, rfl⟩
  have hBW : Below w.heap.size w W := by rw [hW]; exact (below1 _ _).alloc (by simp) _
  have hbox : W.heap[B]? = some (Obj.cells #[Value.pointer (some ⟨P, 0, none⟩)] 59) := by rw [hW, hB]; exact blk_alloc (blk_new _ _) _
  have hres : W.heap[B + 1]? = some (Obj.cells #[Value.string ⟨#[]⟩, Value.int .i64 0, Value.slice none 0 0] 35) := by
    rw [hW, hB]
    have := blk_new (w.alloc (Obj.cells #[Value.pointer (some ⟨P, 0, none⟩)] 59)) (Obj.cells #[Value.string ⟨#[]⟩, Value.int .i64 0, Value.slice none 0 0] 35)
    rw [World.size_alloc] at this
    exact this
  rw [← hW, ← hB]
  refine (HN.out W (H.out.below hBW)).mono ?_
  rintro e w1 ⟨rfl, hp1⟩
  have hne : B ≠ P := by omega
  have hbox1 := blk_grown hbox hp1.grown hne
  have hres1 := blk_grown hres hp1.grown (by omega)
  have hPost1 := (ParPost.of_below H.out hBW).trans hp1
  obtain ⟨n, hnv⟩ : ∃ n, n = nameV l false σ := ⟨_, rfl⟩
  rw [← hnv]
  have hz1 := hPost1.grown.size
  obtain ⟨w0, hw0⟩ : ∃ w0, w0 = w1.alloc (Obj.cells #[Value.int .i64 n.kind, Value.string n.text, Value.int .i64 (n.pos : Int)] 41) := ⟨_, rfl⟩
  have b0 : w1.cell? ⟨B, 0, none⟩ = some (.pointer (some ⟨P, 0, none⟩)) := by rw [blk_cell hbox1]; rfl
  have lB := blk_lt hbox1
  have lR := blk_lt hres1
  have hb01 : Below w1.heap.size w1 w0 := by rw [hw0]; exact below1 _ _
  have hP0 := hPost1.below hb01
  have hbox0 := blk_below hbox1 hb01 lB
  have hres0 := blk_below hres1 hb01 lR
  have hsz0 : w0.heap.size = w1.heap.size + 1 := by rw [hw0]; simp
  obtain ⟨O, hO⟩ : ∃ O, O = w1.heap.size + 1 := ⟨_, rfl⟩
  have hK : Places w0 P g B O := ⟨by omega, by omega, hne, by omega, by omega⟩
  have hRec : RecI w0 P g cap l B O n.text n.pos (.slice none 0 0) (nameS l false σ) [] (w0.alloc (Obj.cells #[Value.string n.text, Value.int .i64 (n.pos : Int), Value.slice none 0 0] 35)) := by
    refine ⟨ParPost.of_below hP0.par (below1 _ _), blk_alloc hbox0 _, ?_, World.ownsRow_nil _ _ _ _⟩
    rw [hO, ← hsz0]; exact blk_new _ _
  have HS := Lib.hid (series_calls _ _ P g cap l _ _ _ (rec_ser n.text n.pos hK HE.out) (nameS l false σ) _ ⟨_, hRec⟩)
  have HRV := Lib.hid (show recV l σ = ⟨n.text, n.pos, (serR l (fieldS l) (fieldV l) (nameS l false σ)).1⟩ by rw [recV, ← hnv])
  have HRS : Hid (recS l σ = (serR l (fieldS l) (fieldV l) (nameS l false σ)).2) := rfl
  have HP0 := Lib.hid hP0
  have HR0 := Lib.hid hres0
  have HW0 := Lib.hid hw0
  have hOw : w.heap.size ≤ O := by have := hBW.size; omega
  have hBw : w.heap.size ≤ B := by omega
  have hOB : B + 1 < O := by omega
  clear hbox hres hBW hW hbox1 hres1 hP0 hb01 hbox0 hres0 hRec hp1 hPost1 hK hnv hw0 hsz0 hB
  simp only [tokA]
  go_wp2_with fail
  rw [← HW0.out, ← hO]
  clear b0 hO
  refine HS.out.mono ?_
  rintro e w2 ⟨rfl, v, hR⟩
  obtain ⟨fs, hfs⟩ : ∃ fs, fs = (serR l (fieldS l) (fieldV l) (nameS l false σ)).1 := ⟨_, rfl⟩
  obtain ⟨τ, hτ⟩ : ∃ τ, τ = (serR l (fieldS l) (fieldV l) (nameS l false σ)).2 := ⟨_, rfl⟩
  rw [← hfs] at HRV hR
  rw [← hτ] at HRS hR
  have hO2 := hR.out
  have o0 : w2.cell? ⟨O, 0, none⟩ = some (.string n.text) := by rw [blk_cell hO2]; rfl
  have o1 : w2.cell? ⟨O, 1, none⟩ = some (.int .i64 (n.pos : Int)) := by rw [blk_cell hO2]; rfl
  have o2 : w2.cell? ⟨O, 2, none⟩ = some v := by rw [blk_cell hO2]; rfl
  have hR2 := blk_grown HR0.out hR.post.grown (by omega)
  have r0 : w2.cell? ⟨B + 1, 0, none⟩ = some (.string ⟨#[]⟩) := by rw [blk_cell hR2]; rfl
  have r1 : w2.cell? ⟨B + 1, 1, none⟩ = some (.int .i64 0) := by rw [blk_cell hR2]; rfl
  have r2 : w2.cell? ⟨B + 1, 2, none⟩ = some (.slice none 0 0) := by rw [blk_cell hR2]; rfl
  have z0 : w2.frozen? ⟨B + 1, 0, none⟩ = false := blk_frozen hR2 _
  have z1 : w2.frozen? ⟨B + 1, 1, none⟩ = false := blk_frozen hR2 _
  have z2 : w2.frozen? ⟨B + 1, 2, none⟩ = false := blk_frozen hR2 _
  have hne2 : B + 1 ≠ O := by omega
  have HRR := Lib.hid hR
  obtain ⟨av, cv, rfl⟩ := own_len hR.own
  clear hR hO2 hR2 hfs hτ HS
  go_wp2_with fail
  refine bodyPost_ret (v := .agg #[.string n.text, .int .i64 (n.pos : Int), .slice av fs.length cv]) (by simp [results, Try.results26, go_sem, *]) rfl ?_
  unfold RecPost
  rw [HRV.out, HRS.out]
  refine ⟨_, rfl, ?_, ?_⟩
  · have ho := HRR.out.own
    refine ownsRow_base (ownsRow_at ho (fun q hq => ?_)) (base' := w.heap.size) (by omega)
    have := (ho.lt q hq).1
    rw [Below.heap_setCell _ _ _ _ (by simp; omega), Below.heap_setCell _ _ _ _ (by simp; omega), Below.heap_setCell _ _ _ _ (by simp; omega)]
  · exact (((HP0.out.trans HRR.out.post).far (by omega) lP lg 0 _).far (by omega) lP lg 1 _).far (by omega) lP lg 2 _

end Go.Proofs.Ytgoaiokpnifhfaa
