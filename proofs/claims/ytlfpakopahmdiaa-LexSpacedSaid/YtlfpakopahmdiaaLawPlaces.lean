/-
  LexPlaces.
-/
import Derived.Test.YtlfpakopahmdiaaAwake03
import Derived.Test.YtlfpakopahmdiaaPlaces
import Derived.Test.YtlfpakopahmdiaaRefBeh
import Derived.OpenShut
namespace Go.Proofs.Ytlfpakopahmdiaa
open Go.RowKit
set_option linter.unusedVariables false
set_option linter.unusedSimpArgs false

def sgC : ByteArray := ⟨#[123, 125, 58, 59, 61, 44, 60, 62, 46, 91, 93, 42, 33, 38, 124, 40, 41, 35, 63, 45]⟩
theorem sgC_low : ∀ j, j < sgC.size → bt sgC j < 128 := by decide +kernel

theorem tokCells_at (l : List Tok) : ∀ (k : Nat) (t : Tok), l[k]? = some t → (tokCells l)[k * 3]? = some (.int .i64 t.kind) ∧ (tokCells l)[k * 3 + 1]? = some (.string t.text) ∧ (tokCells l)[k * 3 + 2]? = some (.int .i64 (t.pos : Int)) := by
  induction l with
  | nil => intro k t h; simp at h
  | cons a l ih =>
    intro k t h
    cases k with
    | zero => obtain rfl := Option.some.inj h; exact ⟨rfl, rfl, rfl⟩
    | succ k =>
      have h2 : l[k]? = some t := by simpa using h
      obtain ⟨g1, g2, g3⟩ := ih k t h2
      have e : tokCells (a :: l) = .int .i64 a.kind :: .string a.text :: .int .i64 (a.pos : Int) :: tokCells l := rfl
      rw [e, show (k + 1) * 3 = k * 3 + 1 + 1 + 1 by omega]
      exact ⟨g1, g2, g3⟩

/-- tokens in memory -/
def ToksAt (w : World) (g : Nat) (l : List Tok) : Prop := ∀ j u, (tokCells l)[j]? = some u → w.cell? ⟨g, j, none⟩ = some u

theorem toksAt_below {w w' : World} {g : Nat} {l : List Tok} (h : ToksAt w g l) (hb : Below w.heap.size w w') : ToksAt w' g l := fun j u hu => by
  have h1 := h j u hu
  have hg : g < w.heap.size := by
    by_cases hl : g < w.heap.size
    · exact hl
    · rw [World.cell?] at h1
      simp [Array.getElem?_eq_none (Nat.not_lt.1 hl)] at h1
  exact (hb.cell (p := ⟨g, j, none⟩) hg).trans h1

set_option maxHeartbeats 4000000 in
set_option maxRecDepth 100000 in
theorem lexPlaces_walk (s : ByteArray) (w : World) (hs : s.size ≤ 140737488351232) :
    Calls Try.prog 10 #[.string s] w fun e w' => e = .returned (.bool true) ∧ Below w.heap.size w w' := by
  have hct := fun (W : World) => tokens_calls s sgC W hs sgC_low
  cases ht : toks s sgC with
  | error x =>
    obtain ⟨c, p⟩ := x
    rw [ht] at hct
    have he := toks_err s sgC c p ht
    have hcb : (c != 0) = true := by rw [bne_iff_ne]; rcases he.1 with h | h <;> rw [h] <;> decide
    have hp : p ≤ 8192 := he.2
    clear he ht
    simp only [sgC] at hct
    go_enter Try.func10, Try.ntmps10
    go_wp2_with (first | (go_at_call 34; refine (awake03_calls _).mono ?_; rintro e wB ⟨rfl, hB⟩; have hzB := hB.size; (try simp only [World.size_alloc, World.size_setCell, World.size_drew] at hzB); obtain ⟨hcB, hfB⟩ := bcell hB))
    refine (hct _).mono ?_
    rintro e w2 ⟨hB2, rfl⟩
    have hp1 : (0 : Int) ≤ (p : Int) := by omega
    have hmx : decide ((p : Int) ≤ max (s.size : Int) 8192) = true := decide_eq_true (by omega)
    go_wp2_with fail
    go_ret
    exact ⟨rfl, (hB.trans (hB2.mono hB.size)).alloc (by have := hB2.size; omega) _⟩
  | ok l =>
    rw [ht] at hct
    obtain ⟨hs8, htf⟩ := toks_ok s sgC l ht
    obtain ⟨hl1, hl2, hend, hpl⟩ := places s sgC 2048 0 l (Nat.zero_le _) htf
    have HEND := Lib.hid hend
    have HPL := Lib.hid hpl
    clear htf hend hpl ht
    simp only [sgC] at hct
    go_enter Try.func10, Try.ntmps10
    go_wp2_with (first | (go_at_call 34; refine (awake03_calls _).mono ?_; rintro e wB ⟨rfl, hB⟩; have hzB := hB.size; (try simp only [World.size_alloc, World.size_setCell, World.size_drew] at hzB); obtain ⟨hcB, hfB⟩ := bcell hB))
    refine (hct _).mono ?_
    rintro e w2 ⟨hB2, v, rfl, hown⟩
    obtain ⟨g, cap, rfl, hg1, hg2⟩ := hown.form (by omega)
    go_wp2_with fail
    have hB02 : Below w.heap.size w (w2.alloc (Obj.cells #[Value.int .i64 0, Value.int .i64 0] 79)) := (hB.trans (hB2.mono hB.size)).alloc (by have := hB.size; have := hB2.size; omega) _
    have hTA : ToksAt (w2.alloc (Obj.cells #[Value.int .i64 0, Value.int .i64 0] 79)) g l := fun j u hu => alloc_keep3 (by have := hown.cells (g := g) rfl j u hu; simpa [Addr.add_lit] using this)
    obtain ⟨W0, hW0⟩ : ∃ x, x = w2.alloc (Obj.cells #[Value.int .i64 0, Value.int .i64 0] 79) := ⟨_, rfl⟩
    rw [← hW0] at hB02 hTA ⊢
    have HB02 := Lib.hid hB02
    have hs2 : s.size ≤ 100000 := by omega
    clear hW0 hB hzB hcB hfB hB2 hown hg1 hg2 hct hB02
    go_loopw [5, 32] (fun v5 v32 wr => ∃ k : Nat, k ≤ l.length ∧ v32 = .int .i64 (k : Int) ∧ v5 = .int .i64 (endAt l 0 k : Nat) ∧ Hid (ToksAt wr g l) ∧ Hid (Below w.heap.size w wr)) (fun _ v32 _ => l.length - (intOf v32).toNat)
    case atStart => exact ⟨0, by omega, rfl, rfl, hTA, HB02.out⟩
    case round =>
      obtain ⟨k, hk, rfl, rfl, hT, hB⟩ := hrel
      clear hTA HB02
      by_cases hkl : k < l.length
      · have hkI : (k : Int) < (l.length : Int) := by omega
        obtain ⟨t, hget⟩ : ∃ t, l[k]? = some t := ⟨l[k], by rw [List.getElem?_eq_getElem hkl]⟩
        have hpo := HPL.out k t hget
        obtain ⟨g1, g2, g3⟩ := tokCells_at l k t hget
        have c0 : wr.cell? ⟨g, k * 3, none⟩ = some (.int .i64 t.kind) := hT.out _ _ g1
        have c1 : wr.cell? ⟨g, k * 3 + 1, none⟩ = some (.string t.text) := hT.out _ _ g2
        have c2 : wr.cell? ⟨g, k * 3 + 2, none⟩ = some (.int .i64 (t.pos : Int)) := hT.out _ _ g3
        have hcb := fun (W : World) => refBehind_calls s (endAt l 0 k) hs2 hpo.esz W
        rw [← hpo.pos] at hcb
        have hlast := hpo.last
        have hpiece := hpo.piece
        have hfit := hpo.fit
        have hnext := hpo.next
        obtain ⟨kd, hkd⟩ : ∃ x, x = t.kind := ⟨_, rfl⟩
        obtain ⟨tx, htx⟩ : ∃ x, x = t.text := ⟨_, rfl⟩
        obtain ⟨ps, hps⟩ : ∃ x, x = t.pos := ⟨_, rfl⟩
        obtain ⟨ek, hek⟩ : ∃ x, x = endAt l 0 k := ⟨_, rfl⟩
        rw [← hkd] at c0 hlast hpiece hfit hnext
        rw [← htx] at c1 hpiece hfit hnext
        rw [← hps] at c2 hcb hpiece hfit hnext
        rw [← hek] at hcb ⊢
        have HT := Lib.hid hT.out
        have HB := Lib.hid hB.out
        have HNEXT := Lib.hid hnext
        clear hT hB g1 g2 g3 hpo hget hkd htx hps hek hnext
        by_cases h3 : kd = 3
        · have b3 : (kd == 3) = true := by rw [h3]; rfl
          have b0 : (kd == 0) = false := by rw [h3]; rfl
          have bl : ((k : Int) == (l.length : Int) - 1) = false := by
            rw [beq_eq_false_iff_ne]; intro h
            have := hlast.2 (by omega)
            omega
          have hsh : shown kd tx = ⟨#[34]⟩ ++ tx ++ ⟨#[34]⟩ := by rw [shown, if_pos h3]
          rw [hsh] at hpiece hfit HNEXT
          have hz2 : (⟨#[34]⟩ ++ tx ++ ⟨#[34]⟩ : ByteArray).size = tx.size + 2 := by
            rw [ByteArray.size_append, ByteArray.size_append]
            have : (⟨#[34]⟩ : ByteArray).size = 1 := rfl
            omega
          have htz : tx.size ≤ 8192 := by omega
          clear h3 hlast hsh
          go_wp2_with fail
          obtain ⟨X, hX⟩ : ∃ X, X = ⟨#[34]⟩ ++ tx ++ ⟨#[34]⟩ := ⟨_, rfl⟩
          rw [← hX] at hpiece hfit HNEXT ⊢
          clear hX hz2 htz
          have hW1e : ∃ x, x = wr.alloc (Obj.cells #[Value.int .i64 kd, Value.string tx, Value.int .i64 (ps : Int)] 85) := ⟨_, rfl⟩
          have t0 := blk_new wr (Obj.cells #[Value.int .i64 kd, Value.string tx, Value.int .i64 (ps : Int)] 85)
          obtain ⟨W1, hW1⟩ := hW1e
          have hB1 : Below w.heap.size w W1 := by rw [hW1]; exact HB.out.alloc HB.out.size _
          have hT1 : ToksAt W1 g l := by rw [hW1]; exact fun j u hu => alloc_keep3 (HT.out j u hu)
          rw [← hW1] at t0 ⊢
          obtain ⟨M, hM⟩ : ∃ M, M = wr.heap.size := ⟨_, rfl⟩
          rw [← hM] at t0 ⊢
          have e0 : W1.cell? ⟨M, 0, none⟩ = some (.int .i64 kd) := by rw [blk_cell t0]; rfl
          have e2 : W1.cell? ⟨M, 2, none⟩ = some (.int .i64 (ps : Int)) := by rw [blk_cell t0]; rfl
          have lM := blk_lt t0
          have HB1 := Lib.hid hB1
          have HT1 := Lib.hid hT1
          clear hM hW1 t0 c0 c1 c2 HB HT hB1 hT1
          have hps0 : (0 : Int) ≤ (ps : Int) := by omega
          have hps1 : (ps : Int) + (X.size : Int) ≤ (s.size : Int) := by omega
          have hdf : decide ((s.size : Int) < (ps : Int) + (X.size : Int)) = false := decide_eq_false (by omega)
          clear hfit
          (have hX := BelowOf.cell W1; refine wp_region_below_lit (by kernel_rfl) (by kernel_rfl) ?_; (repeat (go_big_quiet_step ((go_at_call 38; exact quietS (hcb _))))); refine wpQuiet_nil ?_); intro wB hw'; obtain ⟨⟨wB', hB'⟩, hw''⟩ := hw'; have hB : Below (World.heap W1).size W1 wB := (by rw [hw'']; exact hB'); clear hw'' hB' hX; clear wB'; have hzB := hB.size; obtain ⟨hcB, hfB⟩ := bcell hB
          have y2 : wB.cell? ⟨M, 2, none⟩ = some (.int .i64 (ps : Int)) := (hcB _ _ lM).trans e2
          have HT2 := Lib.hid (toksAt_below HT1.out hB)
          have HB2 := Lib.hid (HB1.out.trans (hB.mono HB1.out.size))
          clear hcB hfB e0 e2 hB
          go_wp2_with fail
          go_roundw
          case rel => exact ⟨k + 1, by omega, by go_num, by rw [HNEXT.out]; go_num, HT2.out, HB2.out⟩
          case measure => simp [intOf]; omega
        · have b3 : (kd == 3) = false := by rw [beq_eq_false_iff_ne]; exact h3
          have hsh : shown kd tx = tx := by rw [shown, if_neg h3]
          rw [hsh] at hpiece hfit HNEXT
          have htz : tx.size ≤ 8192 := by omega
          by_cases h0 : kd = 0
          · have b0 : (kd == 0) = true := by rw [h0]; rfl
            have bl : ((k : Int) == (l.length : Int) - 1) = true := by
              rw [beq_iff_eq]; have := hlast.1 h0; omega
            clear h3 h0 hlast hsh
            go_wp2_with fail
            obtain ⟨X, hX⟩ : ∃ X, X = tx := ⟨_, rfl⟩
            rw [← hX] at hpiece hfit HNEXT htz c1 ⊢
            clear hX
            have hW1e : ∃ x, x = wr.alloc (Obj.cells #[Value.int .i64 kd, Value.string X, Value.int .i64 (ps : Int)] 85) := ⟨_, rfl⟩
            have t0 := blk_new wr (Obj.cells #[Value.int .i64 kd, Value.string X, Value.int .i64 (ps : Int)] 85)
            obtain ⟨W1, hW1⟩ := hW1e
            have hB1 : Below w.heap.size w W1 := by rw [hW1]; exact HB.out.alloc HB.out.size _
            have hT1 : ToksAt W1 g l := by rw [hW1]; exact fun j u hu => alloc_keep3 (HT.out j u hu)
            rw [← hW1] at t0 ⊢
            obtain ⟨M, hM⟩ : ∃ M, M = wr.heap.size := ⟨_, rfl⟩
            rw [← hM] at t0 ⊢
            have e0 : W1.cell? ⟨M, 0, none⟩ = some (.int .i64 kd) := by rw [blk_cell t0]; rfl
            have e2 : W1.cell? ⟨M, 2, none⟩ = some (.int .i64 (ps : Int)) := by rw [blk_cell t0]; rfl
            have lM := blk_lt t0
            have HB1 := Lib.hid hB1
            have HT1 := Lib.hid hT1
            clear hM hW1 t0 c0 c1 c2 HB HT hB1 hT1
            have hps0 : (0 : Int) ≤ (ps : Int) := by omega
            have hps1 : (ps : Int) + (X.size : Int) ≤ (s.size : Int) := by omega
            have hdf : decide ((s.size : Int) < (ps : Int) + (X.size : Int)) = false := decide_eq_false (by omega)
            clear hfit
            (have hX := BelowOf.cell W1; refine wp_region_below_lit (by kernel_rfl) (by kernel_rfl) ?_; (repeat (go_big_quiet_step ((go_at_call 38; exact quietS (hcb _))))); refine wpQuiet_nil ?_); intro wB hw'; obtain ⟨⟨wB', hB'⟩, hw''⟩ := hw'; have hB : Below (World.heap W1).size W1 wB := (by rw [hw'']; exact hB'); clear hw'' hB' hX; clear wB'; have hzB := hB.size; obtain ⟨hcB, hfB⟩ := bcell hB
            have y2 : wB.cell? ⟨M, 2, none⟩ = some (.int .i64 (ps : Int)) := (hcB _ _ lM).trans e2
            have HT2 := Lib.hid (toksAt_below HT1.out hB)
            have HB2 := Lib.hid (HB1.out.trans (hB.mono HB1.out.size))
            clear hcB hfB e0 e2 hB
            go_wp2_with fail
            go_roundw
            case rel => exact ⟨k + 1, by omega, by go_num, by rw [HNEXT.out]; go_num, HT2.out, HB2.out⟩
            case measure => simp [intOf]; omega
          · have b0 : (kd == 0) = false := by rw [beq_eq_false_iff_ne]; exact h0
            have bl : ((k : Int) == (l.length : Int) - 1) = false := by
              rw [beq_eq_false_iff_ne]; intro h
              have := hlast.2 (by omega)
              omega
            clear h3 h0 hlast hsh
            go_wp2_with fail
            obtain ⟨X, hX⟩ : ∃ X, X = tx := ⟨_, rfl⟩
            rw [← hX] at hpiece hfit HNEXT htz c1 ⊢
            clear hX
            have hW1e : ∃ x, x = wr.alloc (Obj.cells #[Value.int .i64 kd, Value.string X, Value.int .i64 (ps : Int)] 85) := ⟨_, rfl⟩
            have t0 := blk_new wr (Obj.cells #[Value.int .i64 kd, Value.string X, Value.int .i64 (ps : Int)] 85)
            obtain ⟨W1, hW1⟩ := hW1e
            have hB1 : Below w.heap.size w W1 := by rw [hW1]; exact HB.out.alloc HB.out.size _
            have hT1 : ToksAt W1 g l := by rw [hW1]; exact fun j u hu => alloc_keep3 (HT.out j u hu)
            rw [← hW1] at t0 ⊢
            obtain ⟨M, hM⟩ : ∃ M, M = wr.heap.size := ⟨_, rfl⟩
            rw [← hM] at t0 ⊢
            have e0 : W1.cell? ⟨M, 0, none⟩ = some (.int .i64 kd) := by rw [blk_cell t0]; rfl
            have e2 : W1.cell? ⟨M, 2, none⟩ = some (.int .i64 (ps : Int)) := by rw [blk_cell t0]; rfl
            have lM := blk_lt t0
            have HB1 := Lib.hid hB1
            have HT1 := Lib.hid hT1
            clear hM hW1 t0 c0 c1 c2 HB HT hB1 hT1
            have hps0 : (0 : Int) ≤ (ps : Int) := by omega
            have hps1 : (ps : Int) + (X.size : Int) ≤ (s.size : Int) := by omega
            have hdf : decide ((s.size : Int) < (ps : Int) + (X.size : Int)) = false := decide_eq_false (by omega)
            clear hfit
            (have hX := BelowOf.cell W1; refine wp_region_below_lit (by kernel_rfl) (by kernel_rfl) ?_; (repeat (go_big_quiet_step ((go_at_call 38; exact quietS (hcb _))))); refine wpQuiet_nil ?_); intro wB hw'; obtain ⟨⟨wB', hB'⟩, hw''⟩ := hw'; have hB : Below (World.heap W1).size W1 wB := (by rw [hw'']; exact hB'); clear hw'' hB' hX; clear wB'; have hzB := hB.size; obtain ⟨hcB, hfB⟩ := bcell hB
            have y2 : wB.cell? ⟨M, 2, none⟩ = some (.int .i64 (ps : Int)) := (hcB _ _ lM).trans e2
            have HT2 := Lib.hid (toksAt_below HT1.out hB)
            have HB2 := Lib.hid (HB1.out.trans (hB.mono HB1.out.size))
            clear hcB hfB e0 e2 hB
            go_wp2_with fail
            go_roundw
            case rel => exact ⟨k + 1, by omega, by go_num, by rw [HNEXT.out]; go_num, HT2.out, HB2.out⟩
            case measure => simp [intOf]; omega
      · have hke : k = l.length := by omega
        have hev : endAt l 0 k = s.size := by rw [hke]; exact HEND.out
        rw [hev]
        have hkI : (l.length : Int) ≤ (k : Int) := by omega
        clear hke hev
        go_wp2_with fail
        go_ret
        exact ⟨rfl, hB.out⟩

end Go.Proofs.Ytlfpakopahmdiaa
