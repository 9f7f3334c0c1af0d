/-
  Layer 3: the reader's next token: at the end; names; signs.
-/
import Derived.Test.YtejpjclbeogajaaDoorLexT
import Derived.Lib.ConvBytes
import Derived.Deep.RegionHeld3
namespace Go.Proofs.YtejpjclbeogajaaDoor
open Go.RowKit
set_option linter.unusedVariables false
set_option linter.unusedSimpArgs false

def tokV (k : Int) (t : ByteArray) (i : Nat) (ok : Bool) : Value := .tuple #[.agg #[.int .i64 k, .string t, .int .i64 (i : Int)], .bool ok]
def TokOk (w : World) (R : Nat) (s sg : ByteArray) (i : Nat) (k : Int) (t : ByteArray) (x : Nat) (e : Ending) (w' : World) : Prop :=
  e = .returned (tokV k t i true) ∧ w.grownBy w' (some R) ∧ w'.heap[R]? = some (rdrB s sg x)
def TokNo (w : World) (R : Nat) (i : Nat) (e : Ending) (w' : World) : Prop :=
  ∃ k t, e = .returned (tokV k t i false) ∧ w.grownBy w' (some R)

/-- a token's block -/
def tokB (k : Int) (t : ByteArray) (i : Int) : Obj := .cells #[.int .i64 k, .string t, .int .i64 i] 103 (0, 0)
theorem grown_far {w w' : World} {R : Nat} (h : w.grownBy w' (some R)) (b j : Nat) (v : Value) (hb : w.heap.size ≤ b) : w.grownBy (w'.setCell ⟨b, j, none⟩ v) (some R) :=
  ⟨h.os, h.tape, h.output, by have := h.size; simpa [World.setCell] using this, fun k hk hn => by rw [Below.heap_setCell _ _ _ _ (fun e => by have : k = b := e; omega)]; exact h.block k hk hn⟩
theorem grown_alloc {w w' : World} {R : Option Nat} (h : w.grownBy w' R) (o : Obj) : w.grownBy (w'.alloc o) R :=
  grown_below h ((Below.refl _ _).alloc (Nat.le_refl _) o)
theorem blk_drewN {w : World} {k : Nat} {o : Obj} (h : w.heap[k]? = some o) (n : Nat) : (w.drewN n).heap[k]? = some o := h
theorem blk_grown {w w' : World} {R k : Nat} {o : Obj} (h : w.heap[k]? = some o) (hg : w.grownBy w' (some R)) (hne : k ≠ R) : w'.heap[k]? = some o :=
  (hg.block k (blk_lt h) (fun e => hne (by cases e; rfl))).trans h

/-- where the reader stands: the result's block, the token's block, and the reader's -/
structure TokAt (w : World) (R : Nat) (s sg : ByteArray) (p : Nat) (G : Nat) (k : Int) (t : ByteArray) (i : Int) (W : World) : Prop where
  grown : w.grownBy W (some R)
  rdr : W.heap[R]? = some (rdrB s sg p)
  res : W.heap[G]? = some (tokB 0 ⟨#[]⟩ 0)
  tok : W.heap[G + 1]? = some (tokB k t i)

theorem TokAt.start {w : World} {R : Nat} {s sg : ByteArray} {i : Nat} (hR : w.heap[R]? = some (rdrB s sg i)) (a : Nat) :
    TokAt w R s sg i w.heap.size 0 ⟨#[]⟩ i (((w.alloc (tokB 0 ⟨#[]⟩ 0)).alloc (tokB 0 ⟨#[]⟩ i)).drewN a) := by
  refine ⟨grown_drewN (grown_alloc (grown_alloc (World.grownBy.refl _ _) _) _) _, ?_, ?_, ?_⟩
  · exact blk_drewN (blk_alloc (blk_alloc hR _) _) _
  · exact blk_drewN (blk_alloc (blk_new _ _) _) _
  · have : w.heap.size + 1 = (w.alloc (tokB 0 ⟨#[]⟩ 0)).heap.size := by simp
    rw [this]
    exact blk_drewN (blk_new _ _) _
theorem TokAt.run {w : World} {R : Nat} {s sg : ByteArray} {p p2 : Nat} {G : Nat} {k : Int} {t : ByteArray} {i : Int} {W W2 : World} (h : TokAt w R s sg p G k t i W) (hg : W.grownBy W2 (some R)) (hr : W2.heap[R]? = some (rdrB s sg p2)) (hRG : R < G) : TokAt w R s sg p2 G k t i W2 :=
  ⟨World.grownBy.trans h.grown hg, hr, blk_grown h.res hg (by omega), blk_grown h.tok hg (by omega)⟩
theorem TokAt.drewN {w : World} {R : Nat} {s sg : ByteArray} {p : Nat} {G : Nat} {k : Int} {t : ByteArray} {i : Int} {W : World} (h : TokAt w R s sg p G k t i W) (n : Nat) : TokAt w R s sg p G k t i (W.drewN n) :=
  ⟨grown_drewN h.grown n, h.rdr, h.res, h.tok⟩
theorem TokAt.below {w : World} {R : Nat} {s sg : ByteArray} {p : Nat} {G : Nat} {k : Int} {t : ByteArray} {i : Int} {W W2 : World} (h : TokAt w R s sg p G k t i W) (hb : Below W.heap.size W W2) : TokAt w R s sg p G k t i W2 :=
  ⟨grown_below h.grown hb, blk_below h.rdr hb (blk_lt h.rdr), blk_below h.res hb (blk_lt h.res), blk_below h.tok hb (blk_lt h.tok)⟩
theorem TokAt.fill {w : World} {R : Nat} {s sg : ByteArray} {p : Nat} {G : Nat} {k : Int} {t : ByteArray} {i : Int} {W : World} (h : TokAt w R s sg p G k t i W) (hRG : R < G) (hG : w.heap.size ≤ G) (k2 : Int) (t2 : ByteArray) :
    TokAt w R s sg p G k2 t2 i ((W.setCell ⟨G + 1, 0, none⟩ (.int .i64 k2)).setCell ⟨G + 1, 1, none⟩ (.string t2)) :=
  ⟨grown_far (grown_far h.grown _ _ _ (by omega)) _ _ _ (by omega), blk_set_ne (blk_set_ne h.rdr _ (by simp; omega) _) _ (by simp; omega) _, blk_set_ne (blk_set_ne h.res _ (by simp) _) _ (by simp) _, by
    rw [blk_set (blk_set h.tok 0 _) 1 _]; rfl⟩
theorem TokAt.step {w : World} {R : Nat} {s sg : ByteArray} {p : Nat} {G : Nat} {k : Int} {t : ByteArray} {i : Int} {W : World} (h : TokAt w R s sg p G k t i W) (hRG : R < G) :
    TokAt w R s sg (p + 1) G k t i (W.setCell ⟨R, 1, none⟩ (.int .i64 ((p : Int) + 1))) :=
  ⟨grown_set h.grown _ _, by rw [blk_set h.rdr]; rfl, blk_set_ne h.res _ (by simp; omega) _, blk_set_ne h.tok _ (by simp; omega) _⟩
/-- behind the stores into the result -/
theorem TokAt.out {w : World} {R : Nat} {s sg : ByteArray} {p : Nat} {G : Nat} {k : Int} {t : ByteArray} {i : Int} {W : World} (h : TokAt w R s sg p G k t i W) (hRG : R < G) (hG : w.heap.size ≤ G) (a b c : Value) :
    w.grownBy (((W.setCell ⟨G, 0, none⟩ a).setCell ⟨G, 1, none⟩ b).setCell ⟨G, 2, none⟩ c) (some R) ∧ (((W.setCell ⟨G, 0, none⟩ a).setCell ⟨G, 1, none⟩ b).setCell ⟨G, 2, none⟩ c).heap[R]? = some (rdrB s sg p) :=
  ⟨grown_far (grown_far (grown_far h.grown _ _ _ hG) _ _ _ hG) _ _ _ hG, blk_set_ne (blk_set_ne (blk_set_ne h.rdr _ (by simp; omega) _) _ (by simp; omega) _) _ (by simp; omega) _⟩

theorem enc_one (s : ByteArray) (i : Nat) (hi : i < s.size) (c : Int) (hc : c = bt s i) (h : c < 128) : Utf8.encode c = s.extract i (i + 1) := by
  have hb := bt_in s i hi
  have h0 := (bt_bd s i).1
  have hn : c.toNat = s[i].toNat := by omega
  have hv : Utf8.valid c = true := by simp [Utf8.valid]; omega
  have e1 : Utf8.encode c = ⟨#[s[i]]⟩ := by
    unfold Utf8.encode
    simp only [hv, if_true]
    rw [if_pos (by omega), hn]
    have : UInt8.ofNat s[i].toNat = s[i] := by simp
    rw [this]
  rw [e1]
  apply ByteArray.ext
  apply Array.ext'
  rw [Lib.extract_data]
  show [s[i]] = _
  have h2 : i < s.data.toList.length := by simpa using hi
  have h3 : s.data.toList[i] = s[i] := rfl
  rw [show i + 1 - i = 1 from by omega, List.take_one, List.head?_drop, List.getElem?_eq_getElem h2, h3]; rfl
theorem cat_piece (s : ByteArray) (a b c : Nat) (h1 : a ≤ b) (h2 : b ≤ c) : s.extract a b ++ s.extract b c = s.extract a c := by
  rw [ByteArray.extract_append_extract]; congr 1 <;> omega
theorem hasSign_index (sg : ByteArray) (c : Int) (h0 : 0 ≤ c) (h1 : c < 256) : decide ((0 : Int) ≤ Lib.indexByte sg.data.toList c.toNat.toUInt8) = hasSign sg c := by
  have hc : ((c.toNat.toUInt8).toNat : Int) = c := by
    have : c.toNat < 256 := by omega
    simp [Nat.mod_eq_of_lt this]; omega
  rw [hasSign, decide_eq_decide]
  constructor
  · intro h
    obtain ⟨o, ho⟩ : ∃ o : Nat, Lib.indexByte sg.data.toList c.toNat.toUInt8 = o := ⟨_, (Int.toNat_of_nonneg h).symm⟩
    have h2 := (Lib.indexByte_some ho).1
    obtain ⟨h3, h4⟩ := List.getElem?_eq_some_iff.1 h2
    have h5 : o < sg.size := by simpa using h3
    refine ⟨o, h5, ?_⟩
    rw [bt_list, h2]; simpa using hc
  · rintro ⟨j, hj, hb⟩
    have hge := Lib.indexByte_ge sg.data.toList c.toNat.toUInt8
    by_cases e : Lib.indexByte sg.data.toList c.toNat.toUInt8 = -1
    · exfalso
      have h2 : j < sg.data.toList.length := by simpa using hj
      refine Lib.indexByte_none e j ?_
      rw [List.getElem?_eq_getElem h2]
      have hbj := bt_in sg j hj
      rw [hb] at hbj
      congr 1
      apply UInt8.toNat_inj.1
      have : sg.data.toList[j] = sg[j] := rfl
      rw [this]; omega
    · omega
theorem hasSign_low (sg : ByteArray) (c : Int) (hsg : ∀ j, j < sg.size → bt sg j < 128) (h : hasSign sg c = true) : c < 128 := by
  rw [hasSign, decide_eq_true_eq] at h
  obtain ⟨j, hj, hb⟩ := h
  have := hsg j hj; omega

/-- what a call of token comes to -/
def TokPost (w : World) (R : Nat) (s sg : ByteArray) (i : Nat) (e : Ending) (w' : World) : Prop :=
  match oneB s sg i with
  | none => TokNo w R i e w'
  | some (k, t, x) => TokOk w R s sg i k t x e w'
theorem tokPost_ok {w : World} {R : Nat} {s sg : ByteArray} {i : Nat} {e : Ending} {w' : World} {k : Int} {t : ByteArray} {x : Nat} (h : oneB s sg i = some (k, t, x)) (h2 : TokOk w R s sg i k t x e w') : TokPost w R s sg i e w' := by
  unfold TokPost; rw [h]; exact h2
theorem tokPost_no {w : World} {R : Nat} {s sg : ByteArray} {i : Nat} {e : Ending} {w' : World} (h : oneB s sg i = none) (h2 : TokNo w R i e w') : TokPost w R s sg i e w' := by
  unfold TokPost; rw [h]; exact h2

set_option maxHeartbeats 1000000 in
set_option maxRecDepth 100000 in
theorem tok_end (R : Nat) (s sg : ByteArray) (i : Nat) (w : World) (hs : s.size ≤ 100000) (hi : i = s.size) (hR : w.heap[R]? = some (rdrB s sg i)) :
    Calls Tryd.prog 73 #[.pointer (some ⟨R, 0, none⟩)] w (TokOk w R s sg i 0 ⟨#[]⟩ i) := by
  have c0 : w.cell? ⟨R, 0, none⟩ = some (.string s) := by rw [blk_cell hR]; rfl
  have c1 : w.cell? ⟨R, 1, none⟩ = some (.int .i64 i) := by rw [blk_cell hR]; rfl
  have lR := blk_lt hR
  have hd : ((i : Int) == (s.size : Int)) = true := by rw [hi]; simp
  clear hi
  go_enter Tryd.func73, Tryd.ntmps73
  go_wp2_with fail
  go_quiet (fail)
  go_wp2_with fail
  have hA := TokAt.start hR nq
  refine bodyPost_ret (v := tokV 0 ⟨#[]⟩ i true) (by simp [results, Tryd.results73, go_sem, tokV, *]) rfl ?_
  have ho := hA.out lR (Nat.le_refl _) (.int .i64 0) (.string ⟨#[]⟩) (.int .i64 i)
  exact ⟨rfl, ho.1, ho.2⟩

set_option maxHeartbeats 1000000 in
set_option maxRecDepth 100000 in
theorem tok_name (R : Nat) (s sg : ByteArray) (i : Nat) (w : World) (hs : s.size ≤ 100000) (hi : i < s.size) (hl : isLetter (bt s i) = true) (hR : w.heap[R]? = some (rdrB s sg i)) :
    Calls Tryd.prog 73 #[.pointer (some ⟨R, 0, none⟩)] w (TokOk w R s sg i 1 (s.extract i (spanEnd s isNamed i)) (spanEnd s isNamed i)) := by
  have c0 : w.cell? ⟨R, 0, none⟩ = some (.string s) := by rw [blk_cell hR]; rfl
  have c1 : w.cell? ⟨R, 1, none⟩ = some (.int .i64 i) := by rw [blk_cell hR]; rfl
  have lR := blk_lt hR
  have hiI : (i : Int) < (s.size : Int) := by omega
  have hi0 : (0 : Int) ≤ (i : Int) := by omega
  have hd : ((i : Int) == (s.size : Int)) = false := by rw [beq_eq_false_iff_ne]; omega
  have hbi := bt_in s i hi
  have hcl := fun (W : World) => lexLetter_calls (bt s i) W (bt_bd s i).1 (bt_bd s i).2
  rw [hl] at hcl
  obtain ⟨c, hc⟩ : ∃ c, c = bt s i := ⟨_, rfl⟩
  rw [← hc] at hcl hbi hl
  have hcb : 0 ≤ c ∧ c < 256 := by rw [hc]; exact bt_bd s i
  have hcb0 := hcb.1
  have hcb1 := hcb.2
  have HBI := Lib.hid hbi
  have HC := Lib.hid hc
  clear hbi hc hcb
  go_enter Tryd.func73, Tryd.ntmps73
  go_wp2_with fail
  go_quiet (fail)
  go_wp2_with fail
  rename Nat => nq1
  go_quiet (fail)
  go_wp2_with fail
  have hA := TokAt.start hR (nq1 + nq)
  obtain ⟨W1, hW1⟩ : ∃ x, x = ((w.alloc (tokB 0 ⟨#[]⟩ 0)).alloc (tokB 0 ⟨#[]⟩ i)).drewN (nq1 + nq) := ⟨_, rfl⟩
  rw [← hW1] at hA
  simp only [tokB] at hW1
  rw [← hW1]
  obtain ⟨G, hG⟩ : ∃ g, g = w.heap.size := ⟨_, rfl⟩
  rw [← hG] at hA lR ⊢
  rw [HBI.out]
  have HA := Lib.hid hA
  have hGle : w.heap.size ≤ G := by omega
  clear hA hW1 hG c0 c1
  refine (hcl _).mono ?_
  rintro e w' ⟨rfl, rfl⟩
  clear hcl
  go_wp2_with fail
  refine (while_calls 109 isNamed lexNamed_calls enters_letter R s sg i W1 hs (by omega) HA.out.rdr).mono ?_
  rintro e w2 ⟨rfl, hg2, hr2⟩
  have HA2 := Lib.hid (HA.out.run hg2 hr2 lR)
  have hA2 := HA2.out
  have c0 : w2.cell? ⟨R, 0, none⟩ = some (.string s) := by rw [blk_cell hA2.rdr]; rfl
  have c1 : w2.cell? ⟨R, 1, none⟩ = some (.int .i64 (spanEnd s isNamed i : Nat)) := by rw [blk_cell hA2.rdr]; rfl
  have c2 : w2.cell? ⟨R, 2, none⟩ = some (.string sg) := by rw [blk_cell hA2.rdr]; rfl
  have fR : w2.frozen? ⟨R, 1, none⟩ = false := blk_frozen hA2.rdr _
  have o0 : w2.cell? ⟨G, 0, none⟩ = some (.int .i64 0) := by rw [blk_cell hA2.res]; rfl
  have o1 : w2.cell? ⟨G, 1, none⟩ = some (.string ⟨#[]⟩) := by rw [blk_cell hA2.res]; rfl
  have o2 : w2.cell? ⟨G, 2, none⟩ = some (.int .i64 0) := by rw [blk_cell hA2.res]; rfl
  have q0 : w2.frozen? ⟨G, 0, none⟩ = false := blk_frozen hA2.res _
  have q1 : w2.frozen? ⟨G, 1, none⟩ = false := blk_frozen hA2.res _
  have q2 : w2.frozen? ⟨G, 2, none⟩ = false := blk_frozen hA2.res _
  have t0 : w2.cell? ⟨G + 1, 0, none⟩ = some (.int .i64 0) := by rw [blk_cell hA2.tok]; rfl
  have t1 : w2.cell? ⟨G + 1, 1, none⟩ = some (.string ⟨#[]⟩) := by rw [blk_cell hA2.tok]; rfl
  have t2 : w2.cell? ⟨G + 1, 2, none⟩ = some (.int .i64 i) := by rw [blk_cell hA2.tok]; rfl
  have r0 : w2.frozen? ⟨G + 1, 0, none⟩ = false := blk_frozen hA2.tok _
  have r1 : w2.frozen? ⟨G + 1, 1, none⟩ = false := blk_frozen hA2.tok _
  clear hA2
  go_wp2_with fail
  refine bodyPost_ret (v := tokV 1 (s.extract i (spanEnd s isNamed i)) i true) (by simp [results, Tryd.results73, go_sem, tokV, *]) rfl ?_
  have ho := (HA2.out.fill lR hGle 1 (s.extract i (spanEnd s isNamed i))).out lR hGle (.int .i64 1) (.string (s.extract i (spanEnd s isNamed i))) (.int .i64 i)
  exact ⟨rfl, ho.1, ho.2⟩

end Go.Proofs.YtejpjclbeogajaaDoor
