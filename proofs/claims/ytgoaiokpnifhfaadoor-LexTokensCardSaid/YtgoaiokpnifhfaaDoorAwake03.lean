/-
  The fixed facts of layer 3.
-/
import Derived.Test.YtgoaiokpnifhfaaDoorTokens
import Derived.Test.YtgoaiokpnifhfaaDoorLexN
namespace Go.Proofs.YtgoaiokpnifhfaaDoor
open Go.RowKit
set_option linter.unusedVariables false
set_option linter.unusedSimpArgs false

def aw1 : ByteArray := ⟨#[97, 49, 32, 45, 53, 123, 34, 120, 34, 58, 110, 97, 109, 101]⟩
def awl : List Tok := [⟨1, ⟨#[97, 49]⟩, 0⟩, ⟨2, ⟨#[45, 53]⟩, 3⟩, ⟨4, ⟨#[123]⟩, 5⟩, ⟨3, ⟨#[120]⟩, 6⟩, ⟨4, ⟨#[58]⟩, 9⟩, ⟨1, ⟨#[110, 97, 109, 101]⟩, 10⟩, ⟨0, ⟨#[]⟩, 14⟩]
theorem aw_toks1 : toks aw1 ⟨#[123, 58]⟩ = .ok awl := by kernel_rfl
theorem aw_toks2 : toks ⟨#[48, 48, 55]⟩ ⟨#[]⟩ = .error (10, 0) := by kernel_rfl
theorem aw_num1 : numOf ⟨#[45, 49, 50, 56]⟩ 1 true = some 18446744073709551488 := by kernel_rfl
theorem aw_num2 : numOf ⟨#[50, 53, 54]⟩ 1 false = none := by kernel_rfl

theorem alloc_keep3 {w : World} {a : Addr} {v : Value} {o : Obj} (h : w.cell? a = some v) : (w.alloc o).cell? a = some v := (World.cell?_alloc_some w a o (by rw [h]; rfl)).trans h
theorem aw_post {w : World} {o o' : Except (Int × Nat) (List Tok)} (h : o = o') {e : Ending} {w' : World} (hp : TokensPost w o e w') : TokensPost w o' e w' := h ▸ hp

set_option maxHeartbeats 4000000 in
set_option maxRecDepth 100000 in
theorem awake03_calls (w : World) : Calls Tryd.prog 10 #[] w fun e w' => e = .returned (.bool true) ∧ Below w.heap.size w w' := by
  have h1 := fun (W : World) => (tokens_calls aw1 ⟨#[123, 58]⟩ W (by decide) (by decide +kernel)).mono (fun e w' => aw_post aw_toks1)
  have h2 := fun (W : World) => (tokens_calls ⟨#[48, 48, 55]⟩ ⟨#[]⟩ W (by decide) (by decide +kernel)).mono (fun e w' => aw_post aw_toks2)
  have h3 := fun (W : World) => lexNumber_calls ⟨#[45, 49, 50, 56]⟩ 1 true W (by decide)
  have h4 := fun (W : World) => lexNumber_calls ⟨#[50, 53, 54]⟩ 1 false W (by decide)
  rw [aw_num1] at h3
  rw [aw_num2] at h4
  have H1 := Lib.hid h1
  have H2 := Lib.hid h2
  have H3 := Lib.hid h3
  have H4 := Lib.hid h4
  clear h1 h2 h3 h4
  go_enter Tryd.func10, Tryd.ntmps10
  go_wp2_with fail
  refine (H1.out w).mono ?_
  rintro e w1 ⟨hB1, v, rfl, hown⟩
  obtain ⟨g, cap, rfl, hg1, hg2⟩ := hown.form (by decide)
  have hx1 : w1.cell? ⟨g, 4, none⟩ = some (.string ⟨#[45, 53]⟩) := by
    have := hown.cells (g := g) rfl 4 (.string ⟨#[45, 53]⟩) rfl
    simpa [Addr.add_lit] using this
  have hx2 : w1.cell? ⟨g, 9, none⟩ = some (.int .i64 3) := by
    have := hown.cells (g := g) rfl 9 (.int .i64 3) rfl
    simpa [Addr.add_lit] using this
  have hlen : awl.length = 7 := rfl
  rw [hlen] at *
  have HOWN := Lib.hid hown
  clear hown
  go_wp2_with fail
  refine (H2.out _).mono ?_
  rintro e w2 ⟨hB2, rfl⟩
  have hz2 := hB2.size
  simp only [World.size_alloc] at hz2
  have hF1 : w2.heap[w1.heap.size]? = some (.cells #[.int .i64 0, .int .i64 0] 27 (0, 0)) := blk_below (blk_new w1 _) hB2 (by simp)
  have hy1 : w2.cell? ⟨g, 4, none⟩ = some (.string ⟨#[45, 53]⟩) := (hB2.cell (p := ⟨g, 4, none⟩) (by simp; omega)).trans (alloc_keep3 hx1)
  have hy2 : w2.cell? ⟨g, 9, none⟩ = some (.int .i64 3) := (hB2.cell (p := ⟨g, 9, none⟩) (by simp; omega)).trans (alloc_keep3 hx2)
  obtain ⟨F1, hf1⟩ : ∃ F, F = w1.heap.size := ⟨_, rfl⟩
  rw [← hf1] at hF1 ⊢
  have lF1 := blk_lt hF1
  have hB02 : Below w.heap.size w w2 := (hB1.alloc hB1.size _).trans (hB2.mono (by simp; have := hB1.size; omega))
  have HB02 := Lib.hid hB02
  clear hx1 hx2 hB2 hB02 hf1
  go_wp2_with fail
  refine (H3.out _).mono ?_
  rintro e w3 ⟨rfl, hB3⟩
  have hz3 := hB3.size
  simp only [World.size_alloc] at hz3
  simp only [numV]
  have hF1' : w3.heap[F1]? = some (.cells #[.int .i64 0, .int .i64 0] 27 (0, 0)) := blk_below (blk_alloc hF1 _) hB3 (by simp; omega)
  have hF2 : w3.heap[w2.heap.size]? = some (.cells #[.int .i64 10, .int .i64 0] 27 (0, 0)) := blk_below (blk_new w2 _) hB3 (by simp)
  have hu1 : w3.cell? ⟨g, 4, none⟩ = some (.string ⟨#[45, 53]⟩) := (hB3.cell (p := ⟨g, 4, none⟩) (by simp; omega)).trans (alloc_keep3 hy1)
  have hu2 : w3.cell? ⟨g, 9, none⟩ = some (.int .i64 3) := (hB3.cell (p := ⟨g, 9, none⟩) (by simp; omega)).trans (alloc_keep3 hy2)
  obtain ⟨F2, hf2⟩ : ∃ F, F = w2.heap.size := ⟨_, rfl⟩
  rw [← hf2] at hF2 ⊢
  have lF2 := blk_lt hF2
  have hB03 : Below w.heap.size w w3 := (HB02.out.alloc HB02.out.size _).trans (hB3.mono (by simp; have := HB02.out.size; omega))
  have HB03 := Lib.hid hB03
  clear hy1 hy2 hB3 hB03 hF1 hf2
  go_wp2_with fail
  refine (H4.out _).mono ?_
  rintro e w4 ⟨rfl, hB4⟩
  simp only [numV]
  have c1 : w4.cell? ⟨F1, 0, none⟩ = some (.int .i64 0) := by rw [blk_cell (blk_below hF1' hB4 (by omega))]; rfl
  have c2 : w4.cell? ⟨F2, 0, none⟩ = some (.int .i64 10) := by rw [blk_cell (blk_below hF2 hB4 (by omega))]; rfl
  have c3 : w4.cell? ⟨g, 4, none⟩ = some (.string ⟨#[45, 53]⟩) := (hB4.cell (p := ⟨g, 4, none⟩) (by simp; omega)).trans hu1
  have c4 : w4.cell? ⟨g, 9, none⟩ = some (.int .i64 3) := (hB4.cell (p := ⟨g, 9, none⟩) (by simp; omega)).trans hu2
  have HB04 := Lib.hid (HB03.out.trans (hB4.mono HB03.out.size))
  clear hu1 hu2 hB4 hF1' hF2 H1 H2 H3 H4
  go_wp2
  go_ret
  exact ⟨rfl, HB04.out⟩

end Go.Proofs.YtgoaiokpnifhfaaDoor
