/-
  Parts: LexB, LexW.
-/
import Derived.Test.YtgoaiokpnifhfaaDoorRegion
import Derived.OwnWalk
import Derived.Maps.AppendAt

/-
  Layer 3: bytes of texts; the kinds of bytes, in the program and in the document's text; where a run of bytes ends.
-/
namespace Go.Proofs.YtgoaiokpnifhfaaDoor
open Go.RowKit
set_option linter.unusedVariables false
set_option linter.unusedSimpArgs false

/-- a text's byte; 0 behind it -/
def bt (s : ByteArray) (i : Nat) : Int := if h : i < s.size then (s[i].toNat : Int) else 0
theorem bt_in (s : ByteArray) (i : Nat) (h : i < s.size) : (s[i].toNat : Int) = bt s i := by rw [bt, dif_pos h]
theorem bt_out (s : ByteArray) (i : Nat) (h : ¬ i < s.size) : bt s i = 0 := by rw [bt, dif_neg h]
theorem bt_bd (s : ByteArray) (i : Nat) : 0 ≤ bt s i ∧ bt s i < 256 := by
  unfold bt; split
  · have := s[i].toNat_lt; omega
  · omega

def isLetter (c : Int) : Bool := decide (c = 95) || (decide (97 ≤ c) && decide (c ≤ 122)) || (decide (65 ≤ c) && decide (c ≤ 90))
def isDigit (c : Int) : Bool := decide (48 ≤ c) && decide (c ≤ 57)
def isNamed (c : Int) : Bool := isLetter c || isDigit c
def isBlank (c : Int) : Bool := decide (c = 32) || decide (c = 9) || decide (c = 10) || decide (c = 13)
def notLine (c : Int) : Bool := !decide (c = 10)
def inQuote (c : Int) : Bool := decide (32 ≤ c) && !decide (c = 34) && !decide (c = 92) && !decide (c = 127)

theorem ret_bool {a b : Bool} (h : a = b) : Ending.returned (.bool a) = .returned (.bool b) := by rw [h]

/-- what a function over a byte comes to -/
def ByteFn (fid : Nat) (p : Int → Bool) : Prop := ∀ (c : Int) (w : World), 0 ≤ c → c < 256 → Calls Tryd.prog fid #[.int .u8 c] w fun e w' => e = .returned (.bool (p c)) ∧ w = w'

set_option maxHeartbeats 400000 in
theorem lexLetter_calls : ByteFn 90 isLetter := by
  intro c w h0 h1
  go_enter Tryd.func90, Tryd.ntmps90
  go_wp2
  all_goals go_ret
  all_goals exact ⟨ret_bool (by rw [Bool.eq_iff_iff]; simp_all [isLetter, bne] <;> omega), rfl⟩
set_option maxHeartbeats 400000 in
theorem lexDigit_calls : ByteFn 86 isDigit := by
  intro c w h0 h1
  go_enter Tryd.func86, Tryd.ntmps86
  go_wp2
  all_goals go_ret
  all_goals exact ⟨ret_bool (by rw [Bool.eq_iff_iff]; simp_all [isDigit, bne] <;> omega), rfl⟩
set_option maxHeartbeats 400000 in
theorem lexNamed_calls : ByteFn 91 isNamed := by
  intro c w h0 h1
  go_enter Tryd.func91, Tryd.ntmps91
  go_wp2_with (first | (go_at_call 90; refine (lexLetter_calls _ _ h0 h1).mono ?_; rintro e w' ⟨rfl, rfl⟩) | (go_at_call 86; refine (lexDigit_calls _ _ h0 h1).mono ?_; rintro e w' ⟨rfl, rfl⟩))
  all_goals go_ret
  all_goals exact ⟨ret_bool (by rw [Bool.eq_iff_iff]; simp_all [isNamed]), rfl⟩
set_option maxHeartbeats 400000 in
theorem lexBlank_calls : ByteFn 40 isBlank := by
  intro c w h0 h1
  go_enter Tryd.func40, Tryd.ntmps40
  go_wp2
  all_goals go_ret
  all_goals exact ⟨ret_bool (by rw [Bool.eq_iff_iff]; simp_all [isBlank, bne] <;> omega), rfl⟩
set_option maxHeartbeats 400000 in
theorem lexLine_calls : ByteFn 89 notLine := by
  intro c w h0 h1
  go_enter Tryd.func89, Tryd.ntmps89
  go_wp2
  all_goals go_ret
  all_goals exact ⟨ret_bool (by rw [Bool.eq_iff_iff]; simp_all [notLine, bne] <;> omega), rfl⟩
set_option maxHeartbeats 400000 in
theorem lexQuote_calls : ByteFn 92 inQuote := by
  intro c w h0 h1
  go_enter Tryd.func92, Tryd.ntmps92
  go_wp2
  all_goals go_ret
  all_goals exact ⟨ret_bool (by rw [Bool.eq_iff_iff]; simp_all [inQuote, bne] <;> omega), rfl⟩
set_option maxHeartbeats 400000 in
theorem refDigit_calls : ByteFn 97 isDigit := by
  intro c w h0 h1
  go_enter Tryd.func97, Tryd.ntmps97
  go_wp2
  all_goals go_ret
  all_goals exact ⟨ret_bool (by rw [Bool.eq_iff_iff]; simp_all [isDigit, bne] <;> omega), rfl⟩

/-- where a run of bytes of a kind ends -/
def spanN (s : ByteArray) (p : Int → Bool) : Nat → Nat → Nat
  | 0, i => i
  | n + 1, i => if i < s.size ∧ p (bt s i) = true then spanN s p n (i + 1) else i
def spanEnd (s : ByteArray) (p : Int → Bool) (i : Nat) : Nat := spanN s p (s.size - i) i

theorem spanN_eq (s : ByteArray) (p : Int → Bool) : ∀ (n i j : Nat), i ≤ j → j ≤ s.size → s.size - i ≤ n → (∀ x, i ≤ x → x < j → p (bt s x) = true) → (j = s.size ∨ p (bt s j) = false) → spanN s p n i = j := by
  intro n
  induction n with
  | zero => intro i j h1 h2 h3 h4 h5; simp only [spanN]; omega
  | succ n ih =>
    intro i j h1 h2 h3 h4 h5
    simp only [spanN]
    by_cases hij : i = j
    · subst hij
      rw [if_neg]
      rintro ⟨ha, hb⟩
      rcases h5 with h | h
      · omega
      · rw [h] at hb; cases hb
    · rw [if_pos ⟨by omega, h4 i (Nat.le_refl _) (by omega)⟩]
      exact ih (i + 1) j (by omega) h2 (by omega) (fun x hx hx2 => h4 x (by omega) hx2) h5
theorem spanEnd_eq (s : ByteArray) (p : Int → Bool) (i j : Nat) (h1 : i ≤ j) (h2 : j ≤ s.size) (h4 : ∀ x, i ≤ x → x < j → p (bt s x) = true) (h5 : j = s.size ∨ p (bt s j) = false) : spanEnd s p i = j :=
  spanN_eq s p _ i j h1 h2 (Nat.le_refl _) h4 h5
theorem spanN_bd (s : ByteArray) (p : Int → Bool) : ∀ (n i : Nat), i ≤ s.size → s.size - i ≤ n → i ≤ spanN s p n i ∧ spanN s p n i ≤ s.size ∧ (∀ x, i ≤ x → x < spanN s p n i → p (bt s x) = true) ∧ (spanN s p n i = s.size ∨ p (bt s (spanN s p n i)) = false) := by
  intro n
  induction n with
  | zero => intro i h1 h2; simp only [spanN]; exact ⟨Nat.le_refl _, h1, fun x hx hx2 => by omega, .inl (by omega)⟩
  | succ n ih =>
    intro i h1 h2
    simp only [spanN]
    by_cases h : i < s.size ∧ p (bt s i) = true
    · rw [if_pos h]
      obtain ⟨a, b, c, d⟩ := ih (i + 1) (by omega) (by omega)
      refine ⟨by omega, b, fun x hx hx2 => ?_, d⟩
      by_cases e : x = i
      · rw [e]; exact h.2
      · exact c x (by omega) hx2
    · rw [if_neg h]
      refine ⟨Nat.le_refl _, h1, fun x hx hx2 => by omega, ?_⟩
      by_cases e : i = s.size
      · exact .inl e
      · refine .inr ?_
        cases hp : p (bt s i)
        · rfl
        · exact absurd ⟨by omega, hp⟩ h
theorem spanEnd_bd (s : ByteArray) (p : Int → Bool) (i : Nat) (h : i ≤ s.size) : i ≤ spanEnd s p i ∧ spanEnd s p i ≤ s.size ∧ (∀ x, i ≤ x → x < spanEnd s p i → p (bt s x) = true) ∧ (spanEnd s p i = s.size ∨ p (bt s (spanEnd s p i)) = false) :=
  spanN_bd s p _ i h (Nat.le_refl _)

end Go.Proofs.YtgoaiokpnifhfaaDoor

/-
  Layer 3: the reader's runs.
-/
namespace Go.Proofs.YtgoaiokpnifhfaaDoor
open Go.RowKit
set_option linter.unusedVariables false
set_option linter.unusedSimpArgs false

/-- the reader's block -/
def rdrB (s sg : ByteArray) (i : Nat) : Obj := .cells #[.string s, .int .i64 (i : Int), .string sg] 105 (0, 0)

theorem grown_set {w w' : World} {R : Nat} (h : w.grownBy w' (some R)) (j : Nat) (v : Value) : w.grownBy (w'.setCell ⟨R, j, none⟩ v) (some R) :=
  ⟨h.os, h.tape, h.output, by have := h.size; simpa [World.setCell] using this, fun k hk hn => by rw [Below.heap_setCell _ _ _ _ (fun e => hn (by rw [e]))]; exact h.block k hk hn⟩
theorem grown_below {w w' w'' : World} {R : Option Nat} (h : w.grownBy w' R) (hb : Below w'.heap.size w' w'') : w.grownBy w'' R :=
  ⟨hb.os.trans h.os, hb.tape.trans h.tape, hb.output.trans h.output, Nat.le_trans h.size hb.size, fun k hk hn => (hb.block k (Nat.lt_of_lt_of_le hk h.size)).trans (h.block k hk hn)⟩

theorem grown_drewN {w w' : World} {R : Option Nat} (h : w.grownBy w' R) (n : Nat) : w.grownBy (w'.drewN n) R := ⟨h.os, h.tape, h.output, h.size, h.block⟩

/-- a function value's call enters the function -/
def Enters (fid : Nat) : Prop := ∀ (args : Array Value) (w : World), Sem.run Tryd.prog (callFunc fid args) w = .ok (.enter fid args) w
set_option maxRecDepth 100000 in
theorem enters_letter : Enters 91 := fun _ _ => rfl

def posOf (w : World) (R : Nat) : Nat := (intOf ((w.cell? ⟨R, 1, none⟩).getD undef)).toNat

def WhilePost (w : World) (R : Nat) (s sg : ByteArray) (i : Nat) (p : Int → Bool) (e : Ending) (w' : World) : Prop :=
  e = .returned (.string (s.extract i (spanEnd s p i))) ∧ w.grownBy w' (some R) ∧ w'.heap[R]? = some (rdrB s sg (spanEnd s p i))

set_option maxHeartbeats 1000000 in
theorem while_calls (fid : Nat) (p : Int → Bool) (hp : ByteFn fid p) (hent : Enters fid) (R : Nat) (s sg : ByteArray) (i : Nat) (w : World) (hs : s.size ≤ 100000) (hi : i ≤ s.size) (hR : w.heap[R]? = some (rdrB s sg i)) :
    Calls Tryd.prog 39 #[.pointer (some ⟨R, 0, none⟩), .func (.func fid) #[] #[]] w (WhilePost w R s sg i p) := by
  have c1 : w.cell? ⟨R, 1, none⟩ = some (.int .i64 i) := by rw [blk_cell hR]; rfl
  have HP := Lib.hid hp
  have HENT := Lib.hid hent
  clear hp hent
  go_enter Tryd.func39, Tryd.ntmps39
  go_wp2_with fail
  clear c1
  go_loopw [10] (fun _ wr => ∃ j : Nat, i ≤ j ∧ j ≤ s.size ∧ (∀ x, i ≤ x → x < j → p (bt s x) = true) ∧ w.grownBy wr (some R) ∧ wr.heap[R]? = some (rdrB s sg j)) (fun _ wr => s.size - posOf wr R)
  case atStart => exact ⟨i, Nat.le_refl _, hi, fun x h1 h2 => by omega, World.grownBy.refl _ _, hR⟩
  case round =>
    obtain ⟨j, hij, hjs, hall, hg, hRj⟩ := hrel
    have c0 : wr.cell? ⟨R, 0, none⟩ = some (.string s) := by rw [blk_cell hRj]; rfl
    have c1 : wr.cell? ⟨R, 1, none⟩ = some (.int .i64 j) := by rw [blk_cell hRj]; rfl
    have f1 : wr.frozen? ⟨R, 1, none⟩ = false := blk_frozen hRj _
    have lR := blk_lt hRj
    have HALL := Lib.hid hall
    have hpos : posOf wr R = j := by simp [posOf, c1, intOf]
    have HPOS := Lib.hid hpos
    clear hall hpos
    by_cases hj : j < s.size
    · have hjI : (j : Int) < (s.size : Int) := by omega
      have hbj := bt_in s j hj
      have hcal := fun W => HP.out (bt s j) W (bt_bd s j).1 (bt_bd s j).2
      rw [← hbj] at hcal
      have HBJ := Lib.hid hbj
      clear hbj
      have hd : decide ((j : Int) < (s.size : Int)) = true := decide_eq_true hjI
      cases hpj : p (bt s j) with
      | true =>
        rw [HBJ.out, hpj] at hcal
        rw [← HBJ.out] at hcal
        have HPJ := Lib.hid hpj
        clear hpj
        go_wp2_with fail
        (have hX := BelowOf.cell wr; refine wp_region_below_lit (by kernel_rfl) (by kernel_rfl) ?_; (repeat (go_big_quiet_step ((rw [HENT.out]; exact ⟨rfl, quietS (hcal _)⟩)))); refine wpQuiet_nil ?_); intro wB hw'; obtain ⟨⟨wB', hB'⟩, hw''⟩ := hw'; have hB : Below (World.heap wr).size wr wB := (by rw [hw'']; exact hB'); clear hw'' hB' hX; clear wB'; have hzB := hB.size; obtain ⟨hcB, hfB⟩ := bcell hB
        have hRB := blk_below hRj hB lR
        have y1 : wB.cell? ⟨R, 1, none⟩ = some (.int .i64 j) := by rw [blk_cell hRB]; rfl
        have yf : wB.frozen? ⟨R, 1, none⟩ = false := blk_frozen hRB _
        clear c0 c1 f1 hcB hfB
        go_wp2_with fail
        go_roundw
        case rel =>
          refine ⟨j + 1, by omega, by omega, fun x h1 h2 => ?_, grown_set (grown_below hg hB) _ _, ?_⟩
          · by_cases e : x = j
            · rw [e]; exact HPJ.out
            · exact HALL.out x h1 (by omega)
          · rw [blk_set hRB]
            simp only [rdrB]
            congr 2
        case measure =>
          have e : posOf (wB.setCell ⟨R, 1, none⟩ (.int .i64 ((j : Int) + 1))) R = j + 1 := by
            have : (wB.setCell ⟨R, 1, none⟩ (.int .i64 ((j : Int) + 1))).cell? ⟨R, 1, none⟩ = some (.int .i64 ((j : Int) + 1)) := by rw [blk_cell (blk_set hRB _ _)]; rfl
            simp [posOf, this, intOf]
          rw [e, HPOS.out]; omega
      | false =>
        rw [HBJ.out, hpj] at hcal
        rw [← HBJ.out] at hcal
        have HPJ := Lib.hid hpj
        clear hpj
        go_wp2_with fail
        (have hX := BelowOf.cell wr; refine wp_region_below_lit (by kernel_rfl) (by kernel_rfl) ?_; (repeat (go_big_quiet_step ((rw [HENT.out]; exact ⟨rfl, quietS (hcal _)⟩)))); refine wpQuiet_nil ?_); intro wB hw'; obtain ⟨⟨wB', hB'⟩, hw''⟩ := hw'; have hB : Below (World.heap wr).size wr wB := (by rw [hw'']; exact hB'); clear hw'' hB' hX; clear wB'; have hzB := hB.size; obtain ⟨hcB, hfB⟩ := bcell hB
        have hRB := blk_below hRj hB lR
        have hse := spanEnd_eq s p i j hij hjs HALL.out (.inr HPJ.out)
        have HSE := Lib.hid hse
        have y0 : wB.cell? ⟨R, 0, none⟩ = some (.string s) := by rw [blk_cell hRB]; rfl
        have y1 : wB.cell? ⟨R, 1, none⟩ = some (.int .i64 j) := by rw [blk_cell hRB]; rfl
        clear c0 c1 f1 hcB hfB hse
        go_wp2_with fail
        go_quiet (fail)
        go_wp2_with fail
        go_ret
        exact ⟨by rw [HSE.out]; rfl, grown_drewN (grown_below hg hB) _, by rw [HSE.out]; exact hRB⟩
    · have hjs' : j = s.size := by omega
      have hse := spanEnd_eq s p i j hij hjs HALL.out (.inl hjs')
      have HSE := Lib.hid hse
      have HJS := Lib.hid hjs'
      have hd : decide ((j : Int) < (s.size : Int)) = false := decide_eq_false (by omega)
      clear hse hjs'
      go_wp2_with fail
      go_quiet (fail)
      go_wp2_with fail
      go_quiet (fail)
      go_wp2_with fail
      go_ret
      exact ⟨by rw [HSE.out, HJS.out]; rfl, grown_drewN (grown_drewN hg _) _, by rw [HSE.out]; exact hRj⟩

end Go.Proofs.YtgoaiokpnifhfaaDoor
