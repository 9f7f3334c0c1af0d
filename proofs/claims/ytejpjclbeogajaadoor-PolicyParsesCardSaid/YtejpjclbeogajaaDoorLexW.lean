/-
  Layer 3: the reader's runs.
-/
import Derived.Test.YtejpjclbeogajaaDoorLexB
import Derived.OwnWalk
import Derived.Maps.AppendAt
namespace Go.Proofs.YtejpjclbeogajaaDoor
open Go.RowKit
set_option linter.unusedVariables false
set_option linter.unusedSimpArgs false

/-- the reader's block -/
def rdrB (s sg : ByteArray) (i : Nat) : Obj := .cells #[.string s, .int .i64 (i : Int), .string sg] 149 (0, 0)

theorem grown_set {w w' : World} {R : Nat} (h : w.grownBy w' (some R)) (j : Nat) (v : Value) : w.grownBy (w'.setCell ⟨R, j, none⟩ v) (some R) :=
  ⟨h.os, h.tape, h.output, by have := h.size; simpa [World.setCell] using this, fun k hk hn => by rw [Below.heap_setCell _ _ _ _ (fun e => hn (by rw [e]))]; exact h.block k hk hn⟩
theorem grown_below {w w' w'' : World} {R : Option Nat} (h : w.grownBy w' R) (hb : Below w'.heap.size w' w'') : w.grownBy w'' R :=
  ⟨hb.os.trans h.os, hb.tape.trans h.tape, hb.output.trans h.output, Nat.le_trans h.size hb.size, fun k hk hn => (hb.block k (Nat.lt_of_lt_of_le hk h.size)).trans (h.block k hk hn)⟩

theorem grown_drewN {w w' : World} {R : Option Nat} (h : w.grownBy w' R) (n : Nat) : w.grownBy (w'.drewN n) R := ⟨h.os, h.tape, h.output, h.size, h.block⟩

/-- a function value's call enters the function -/
def Enters (fid : Nat) : Prop := ∀ (args : Array Value) (w : World), Sem.run Tryd.prog (callFunc fid args) w = .ok (.enter fid args) w
set_option maxRecDepth 100000 in
theorem enters_letter : Enters 109 := fun _ _ => rfl

def posOf (w : World) (R : Nat) : Nat := (intOf ((w.cell? ⟨R, 1, none⟩).getD undef)).toNat

def WhilePost (w : World) (R : Nat) (s sg : ByteArray) (i : Nat) (p : Int → Bool) (e : Ending) (w' : World) : Prop :=
  e = .returned (.string (s.extract i (spanEnd s p i))) ∧ w.grownBy w' (some R) ∧ w'.heap[R]? = some (rdrB s sg (spanEnd s p i))

set_option maxHeartbeats 1000000 in
theorem while_calls (fid : Nat) (p : Int → Bool) (hp : ByteFn fid p) (hent : Enters fid) (R : Nat) (s sg : ByteArray) (i : Nat) (w : World) (hs : s.size ≤ 100000) (hi : i ≤ s.size) (hR : w.heap[R]? = some (rdrB s sg i)) :
    Calls Tryd.prog 70 #[.pointer (some ⟨R, 0, none⟩), .func (.func fid) #[] #[]] w (WhilePost w R s sg i p) := by
  have c1 : w.cell? ⟨R, 1, none⟩ = some (.int .i64 i) := by rw [blk_cell hR]; rfl
  have HP := Lib.hid hp
  have HENT := Lib.hid hent
  clear hp hent
  go_enter Tryd.func70, Tryd.ntmps70
  go_wp2_with fail
  clear c1
  go_loopw [10] (fun _ wr => ∃ j : Nat, i ≤ j ∧ j ≤ s.size ∧ (∀ x, i ≤ x → x < j → p (bt s x) = true) ∧ w.grownBy wr (some R) ∧ wr.heap[R]? = some (rdrB s sg j)) (fun _ wr => s.size - posOf wr R)
  case atStart => exact ⟨i, Nat.le_refl _, hi, fun x h1 h2 => by omega, World.grownBy.refl _ _, hR⟩
  case round =>
    obtain ⟨j, hij, hjs, hall, hg, hRj⟩ := hrel
    have c0 : wr.cell? ⟨R, 0, none⟩ = some (.string s) := by rw [blk_cell hRj]; rfl
    have c1 : wr.cell? ⟨R, 1, none⟩ = some (.int .i64 j) := by rw [blk_cell hRj]; rfl
    have f1 : wr.frozen? ⟨R, 1, none⟩ = false := blk_frozen hRj _
    have lR := blk_lt hRj
    have HALL := Lib.hid hall
    have hpos : posOf wr R = j := by simp [posOf, c1, intOf]
    have HPOS := Lib.hid hpos
    clear hall hpos
    by_cases hj : j < s.size
    · have hjI : (j : Int) < (s.size : Int) := by omega
      have hbj := bt_in s j hj
      have hcal := fun W => HP.out (bt s j) W (bt_bd s j).1 (bt_bd s j).2
      rw [← hbj] at hcal
      have HBJ := Lib.hid hbj
      clear hbj
      have hd : decide ((j : Int) < (s.size : Int)) = true := decide_eq_true hjI
      cases hpj : p (bt s j) with
      | true =>
        rw [HBJ.out, hpj] at hcal
        rw [← HBJ.out] at hcal
        have HPJ := Lib.hid hpj
        clear hpj
        go_wp2_with fail
        (have hX := BelowOf.cell wr; refine wp_region_below_lit (by kernel_rfl) (by kernel_rfl) ?_; (repeat (go_big_quiet_step ((rw [HENT.out]; exact ⟨rfl, quietS (hcal _)⟩)))); refine wpQuiet_nil ?_); intro wB hw'; obtain ⟨⟨wB', hB'⟩, hw''⟩ := hw'; have hB : Below (World.heap wr).size wr wB := (by rw [hw'']; exact hB'); clear hw'' hB' hX; clear wB'; have hzB := hB.size; obtain ⟨hcB, hfB⟩ := bcell hB
        have hRB := blk_below hRj hB lR
        have y1 : wB.cell? ⟨R, 1, none⟩ = some (.int .i64 j) := by rw [blk_cell hRB]; rfl
        have yf : wB.frozen? ⟨R, 1, none⟩ = false := blk_frozen hRB _
        clear c0 c1 f1 hcB hfB
        go_wp2_with fail
        go_roundw
        case rel =>
          refine ⟨j + 1, by omega, by omega, fun x h1 h2 => ?_, grown_set (grown_below hg hB) _ _, ?_⟩
          · by_cases e : x = j
            · rw [e]; exact HPJ.out
            · exact HALL.out x h1 (by omega)
          · rw [blk_set hRB]
            simp only [rdrB]
            congr 2
        case measure =>
          have e : posOf (wB.setCell ⟨R, 1, none⟩ (.int .i64 ((j : Int) + 1))) R = j + 1 := by
            have : (wB.setCell ⟨R, 1, none⟩ (.int .i64 ((j : Int) + 1))).cell? ⟨R, 1, none⟩ = some (.int .i64 ((j : Int) + 1)) := by rw [blk_cell (blk_set hRB _ _)]; rfl
            simp [posOf, this, intOf]
          rw [e, HPOS.out]; omega
      | false =>
        rw [HBJ.out, hpj] at hcal
        rw [← HBJ.out] at hcal
        have HPJ := Lib.hid hpj
        clear hpj
        go_wp2_with fail
        (have hX := BelowOf.cell wr; refine wp_region_below_lit (by kernel_rfl) (by kernel_rfl) ?_; (repeat (go_big_quiet_step ((rw [HENT.out]; exact ⟨rfl, quietS (hcal _)⟩)))); refine wpQuiet_nil ?_); intro wB hw'; obtain ⟨⟨wB', hB'⟩, hw''⟩ := hw'; have hB : Below (World.heap wr).size wr wB := (by rw [hw'']; exact hB'); clear hw'' hB' hX; clear wB'; have hzB := hB.size; obtain ⟨hcB, hfB⟩ := bcell hB
        have hRB := blk_below hRj hB lR
        have hse := spanEnd_eq s p i j hij hjs HALL.out (.inr HPJ.out)
        have HSE := Lib.hid hse
        have y0 : wB.cell? ⟨R, 0, none⟩ = some (.string s) := by rw [blk_cell hRB]; rfl
        have y1 : wB.cell? ⟨R, 1, none⟩ = some (.int .i64 j) := by rw [blk_cell hRB]; rfl
        clear c0 c1 f1 hcB hfB hse
        go_wp2_with fail
        go_quiet (fail)
        go_wp2_with fail
        go_ret
        exact ⟨by rw [HSE.out]; rfl, grown_drewN (grown_below hg hB) _, by rw [HSE.out]; exact hRB⟩
    · have hjs' : j = s.size := by omega
      have hse := spanEnd_eq s p i j hij hjs HALL.out (.inl hjs')
      have HSE := Lib.hid hse
      have HJS := Lib.hid hjs'
      have hd : decide ((j : Int) < (s.size : Int)) = false := decide_eq_false (by omega)
      clear hse hjs'
      go_wp2_with fail
      go_quiet (fail)
      go_wp2_with fail
      go_quiet (fail)
      go_wp2_with fail
      go_ret
      exact ⟨by rw [HSE.out, HJS.out]; rfl, grown_drewN (grown_drewN hg _) _, by rw [HSE.out]; exact hRj⟩

end Go.Proofs.YtejpjclbeogajaaDoor
