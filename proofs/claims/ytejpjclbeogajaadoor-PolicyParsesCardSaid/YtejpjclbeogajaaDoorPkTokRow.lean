/-
  Parts: TokRow, RefToks.
-/
import Derived.Test.YtejpjclbeogajaaDoorTokens
import Derived.Test.YtejpjclbeogajaaDoorIdl1
import Derived.Test.YtejpjclbeogajaaDoorPkRefOne
import Derived.Test.YtejpjclbeogajaaDoorRefBeh

/-
  Tokens in a slice: what is read.
-/
namespace Go.Proofs.YtejpjclbeogajaaDoor
open Go.RowKit
set_option linter.unusedVariables false
set_option linter.unusedSimpArgs false

theorem tokCells_get (l : List Tok) : ∀ (k : Nat), k < l.length → (tokCells l)[k * 3]? = some (.int .i64 (l[k]?.getD tok0).kind) ∧ (tokCells l)[k * 3 + 1]? = some (.string (l[k]?.getD tok0).text) ∧ (tokCells l)[k * 3 + 2]? = some (.int .i64 ((l[k]?.getD tok0).pos : Int)) := by
  induction l with
  | nil => intro k h; simp at h
  | cons a l ih =>
    intro k h
    have e : tokCells (a :: l) = .int .i64 a.kind :: .string a.text :: .int .i64 (a.pos : Int) :: tokCells l := rfl
    cases k with
    | zero => exact ⟨rfl, rfl, rfl⟩
    | succ k =>
      have h2 : k < l.length := by simpa using h
      obtain ⟨g1, g2, g3⟩ := ih k h2
      rw [e, show (k + 1) * 3 = k * 3 + 1 + 1 + 1 by omega]
      exact ⟨g1, g2, g3⟩
/-- tokens in a slice -/
def TokRow (w : World) (a : Option Addr) (l : List Tok) : Prop := 0 < l.length → ∃ g, a = some ⟨g, 0, none⟩ ∧ ToksIn w g l
theorem TokRow.below {w w' : World} {a : Option Addr} {l : List Tok} (h : TokRow w a l) (hb : Below w.heap.size w w') : TokRow w' a l := fun h0 => by
  obtain ⟨g, ha, ht⟩ := h h0
  exact ⟨g, ha, ht.kept (hb.block g (ht.lt h0))⟩
theorem tokRow_owned {w : World} {base cap : Nat} {a : Option Addr} {l : List Tok} (h : w.ownsRow base 103 3 (.slice a l.length cap) l.length (tokCells l)) : TokRow w a l := by
  intro h0
  obtain ⟨g, c, hv, _, _⟩ := h.form h0
  cases hv
  refine ⟨g, rfl, fun k hk => ?_⟩
  have hc := tokCells_get l k hk
  have h3 := h.cells (g := g) rfl
  refine ⟨?_, ?_, ?_⟩
  · have := h3 (k * 3) _ hc.1; simpa [Addr.add_lit] using this
  · have := h3 (k * 3 + 1) _ hc.2.1; simpa [Addr.add_lit] using this
  · have := h3 (k * 3 + 2) _ hc.2.2; simpa [Addr.add_lit] using this

end Go.Proofs.YtejpjclbeogajaaDoor

/-
  The document's tokens of a text; two lists of tokens that are the same.
-/
namespace Go.Proofs.YtejpjclbeogajaaDoor
open Go.RowKit
set_option linter.unusedVariables false
set_option linter.unusedSimpArgs false

/-- what a call of the document's Tokens comes to -/
def RefToksPost (w : World) (o : Except (Int × Nat) (List Tok)) (e : Ending) (w' : World) : Prop :=
  Below w.heap.size w w' ∧
  match o with
  | .error (c, p) => e = .returned (.tuple #[.slice none 0 0, .int .i64 c, .int .i64 (p : Int)])
  | .ok l => ∃ v, e = .returned (.tuple #[v, .int .i64 0, .int .i64 0]) ∧ w'.ownsRow w.heap.size 103 3 v l.length (tokCells l)

structure RtInv (w : World) (v : Value) (acc : List Tok) (wr : World) : Prop where
  below : Below w.heap.size w wr
  own : wr.ownsRow w.heap.size 103 3 v acc.length (tokCells acc)
  len : lenV v = acc.length
theorem RtInv.run {w : World} {v : Value} {acc : List Tok} {wr w2 : World} (h : RtInv w v acc wr) (hb : Below wr.heap.size wr w2) : RtInv w v acc w2 :=
  ⟨h.below.trans (hb.mono h.below.size), ownsRow_at h.own (fun g hg' => hb.block g (h.own.lt g hg').2), h.len⟩

set_option maxHeartbeats 4000000 in
set_option maxRecDepth 100000 in
theorem refTokens_calls (s sg : ByteArray) (w : World) (hT : Tabs w) (hs0 : s.size ≤ 140737488351232) (hsg : sg.size ≤ 100000) :
    Calls Tryd.prog 15 #[.string s, .string sg] w (RefToksPost w (toks s sg)) := by
  by_cases hbig : 8192 < s.size
  · have HT := Lib.hid (show toks s sg = .error (16, 8192) by rw [toks, if_pos hbig])
    have hd : decide ((8192 : Int) < (s.size : Int)) = true := decide_eq_true (by omega)
    clear hT
    go_enter Tryd.func15, Tryd.ntmps15
    go_wp2_with fail
    refine bodyPost_ret (v := .tuple #[.slice none 0 0, .int .i64 16, .int .i64 8192]) (by simp [results, Tryd.results15, go_sem, *]) rfl ?_
    unfold RefToksPost
    rw [HT.out]
    exact ⟨by (repeat' (first | (with_reducible exact Below.refl _ _) | (with_reducible assumption) | (with_reducible refine Below.alloc ?_ ?_ _) | (with_reducible refine Below.drew ?_) | (with_reducible refine Below.setCell ?_ ?_ _) | (with_reducible refine Below.trans ?_ (Below.mono (by assumption) ?_)) | go_size)), rfl⟩
  · have HT := Lib.hid (show toks s sg = toksF s sg 2048 0 by rw [toks, if_neg hbig])
    have hs : s.size ≤ 100000 := by omega
    have hbI : (s.size : Int) ≤ 8192 := by omega
    have hd0 : decide ((8192 : Int) < (s.size : Int)) = false := decide_eq_false (by omega)
    have HTB := Lib.hid hT
    clear hT
    go_enter Tryd.func15, Tryd.ntmps15
    go_wp2_with fail
    go_loopw [7, 8] (fun v7 v8 wr => ∃ (i : Nat) (acc : List Tok), acc.length ≤ 2048 ∧ i ≤ s.size ∧ v8 = .int .i64 i ∧ Hid (toks s sg = pre acc (toksF s sg (2048 - acc.length) i)) ∧ RtInv w v7 acc wr) (fun v7 _ _ => 2049 - lenV v7)
    case atStart =>
      refine ⟨0, [], by simp, by omega, rfl, ?_, by (repeat' (first | (with_reducible exact Below.refl _ _) | (with_reducible assumption) | (with_reducible refine Below.alloc ?_ ?_ _) | (with_reducible refine Below.drew ?_) | (with_reducible refine Below.setCell ?_ ?_ _) | (with_reducible refine Below.trans ?_ (Below.mono (by assumption) ?_)) | go_size)), World.ownsRow_nil _ _ _ _, rfl⟩
      show toks s sg = _
      rw [HT.out]
      cases toksF s sg 2048 0 <;> rfl
    case round =>
      rename World => wo
      obtain ⟨i, acc, hacc, hi, rfl, heq, hinv⟩ := hrel
      obtain ⟨av, cv, hu7⟩ := own_len hinv.own
      subst hu7
      have HINV := Lib.hid hinv
      have hbd := behind_bd s i hi
      have hbe := fun (W : World) => refBehind_calls s i hs hi W
      obtain ⟨x, hx⟩ : ∃ x, x = behind s i := ⟨_, rfl⟩
      rw [← hx] at hbd hbe
      have HBX := Lib.hid hx.symm
      have hxs : x ≤ s.size := hbd.2
      clear hinv hx hbd
      by_cases hfull : acc.length = 2048
      · have hfd : ((acc.length : Int) == 2048) = true := by rw [beq_iff_eq]; omega
        have HO2 := Lib.hid (show toks s sg = .error (16, x) by
          rw [heq.out, show 2048 - acc.length = 0 by omega, toksF_many, HBX.out]; rfl)
        clear hfull
        go_wp2_with fail
        refine (hbe _).mono ?_
        rintro e w' ⟨rfl, rfl⟩
        go_wp2_with fail
        refine bodyPost_ret (v := .tuple #[.slice none 0 0, .int .i64 16, .int .i64 (x : Int)]) (by simp [results, Tryd.results15, go_sem, *]) rfl ?_
        unfold RefToksPost
        rw [HO2.out]
        exact ⟨HINV.out.below, rfl⟩
      · have hfd : ((acc.length : Int) == 2048) = false := by rw [beq_eq_false_iff_ne]; omega
        have hlt : acc.length < 2048 := by omega
        have hct := one_calls s sg x wo (HTB.out.below HINV.out.below) hs hsg hxs
        unfold OnePost at hct
        clear hfull
        cases hone : oneB s sg x with
        | none =>
          rw [hone] at hct
          have HO2 := Lib.hid (show toks s sg = .error (10, x) by
            rw [heq.out, show 2048 - acc.length = (2047 - acc.length) + 1 by omega, toksF_bad s sg _ _ (by rw [HBX.out]; exact hone), HBX.out]; rfl)
          have HCT := Lib.hid hct
          clear hone hct
          go_wp2_with fail
          refine (hbe _).mono ?_
          rintro e w' ⟨rfl, rfl⟩
          go_wp2_with fail
          refine HCT.out.mono ?_
          rintro e w4 ⟨k, t, x2, rfl, hB4⟩
          have HB4 := Lib.hid hB4
          clear hB4 hbe
          simp only [oneV]
          go_wp2_with fail
          refine bodyPost_ret (v := .tuple #[.slice none 0 0, .int .i64 10, .int .i64 (x : Int)]) (by simp [results, Tryd.results15, go_sem, *]) rfl ?_
          unfold RefToksPost
          rw [HO2.out]
          have hB := (HINV.out.run HB4.out).below
          have hz := hB.size
          exact ⟨by (repeat' (first | (with_reducible exact Below.refl _ _) | (with_reducible assumption) | (with_reducible refine Below.alloc ?_ ?_ _) | (with_reducible refine Below.drew ?_) | (with_reducible refine Below.setCell ?_ ?_ _) | (with_reducible refine Below.trans ?_ (Below.mono (by assumption) ?_)) | go_size)), rfl⟩
        | some r =>
          obtain ⟨k, t, x2⟩ := r
          rw [hone] at hct
          have HONE := Lib.hid hone
          have HCT := Lib.hid hct
          clear hone hct
          go_wp2_with fail
          refine (hbe _).mono ?_
          rintro e w' ⟨rfl, rfl⟩
          go_wp2_with fail
          refine HCT.out.mono ?_
          rintro e w4 ⟨rfl, hB4⟩
          have hI4 := HINV.out.run hB4
          have hbd := oneB_bd s sg x hxs k t x2 HONE.out
          have hx2s : x2 ≤ s.size := hbd.2.2
          have hown := hI4.own
          have HI4 := Lib.hid hI4
          clear hB4 hbe hI4 hbd
          simp only [oneV]
          have hz4 := HI4.out.below.size
          obtain ⟨it, hit, hzt0, hzt1, hzt2⟩ := info_parts info_token
          go_wp2_with (at_builtin; refine wpList_append_lies _ rfl _ _ 57 rfl (w.heap.size) 103 it (.agg #[.int .i64 0, .string ⟨#[]⟩, .int .i64 0]) 3 32 Tryd.underlying57 hit hzt0 hzt1 hzt2 rfl (by decide) _ _ _ rfl ((hown.alloc _).alloc _) ⟨w4.heap.size + 1, 0, none⟩ 1 1 [.int .i64 k, .string t, .int .i64 (x : Int)] rfl rfl (news_three _ _ _ _ _ _) (by simp [Value.oneCell']) (by decide) (by unfold maxLen; omega) (by omega) (by simp; omega) _ rfl ?_)
          intro g cap w5 hown5 hgr5 hat5 hlt5
          have hT5 : w5.heap[w4.heap.size]? = some (tokB k t x) := (hgr5.block _ (by simp; omega) (fun e => by have := (hown.lt _ e.symm).2; omega)).trans (blk_alloc (blk_new w4 _) _)
          have hB5 : Below w.heap.size w w5 := by
            have hb := HI4.out.below
            exact Below.grown ((hb.alloc hb.size _).alloc (by simp; omega) _) hgr5 (by simp; omega) (fun k e => (hown.lt k e).1)
          have t0 : w5.cell? ⟨w4.heap.size, 0, none⟩ = some (.int .i64 k) := by rw [blk_cell hT5]; rfl
          have hcc : tokCells acc ++ [Value.int .i64 k, Value.string t, Value.int .i64 (x : Int)] = tokCells (acc ++ [⟨k, t, x⟩]) := by simp [tokCells]
          rw [hcc] at hown5
          have HOWN5 := Lib.hid hown5
          have HB5 := Lib.hid hB5
          clear hT5 hcc hown5 hB5 hgr5 hat5 hown
          by_cases hk : k = 0
          · have hkb : (k == 0) = true := by rw [hk]; rfl
            have HO2 := Lib.hid (show toks s sg = .ok (acc ++ [⟨k, t, x⟩]) by
              rw [heq.out, show 2048 - acc.length = (2047 - acc.length) + 1 by omega, toksF_end s sg _ _ t x2 (by rw [HBX.out, HONE.out, hk]), HBX.out, hk]; rfl)
            go_wp2_with fail
            refine bodyPost_ret (v := .tuple #[.slice (some ⟨g, 0, none⟩) (acc.length + 1) cap, .int .i64 0, .int .i64 0]) (by simp [results, Tryd.results15, go_sem, *]) rfl ?_
            unfold RefToksPost
            rw [HO2.out]
            refine ⟨HB5.out, _, rfl, ?_⟩
            rw [List.length_append]
            exact HOWN5.out
          · have hkb : (k == 0) = false := by rw [beq_eq_false_iff_ne]; exact hk
            have HK := Lib.hid hk
            clear hk
            go_wp2_with fail
            go_roundw
            case rel =>
              refine ⟨x2, acc ++ [⟨k, t, x⟩], by simp; omega, hx2s, rfl, ?_, HB5.out, by rw [List.length_append]; exact HOWN5.out, by simp [lenV]⟩
              show toks s sg = _
              rw [heq.out, show 2048 - acc.length = (2047 - acc.length) + 1 by omega, toksF_go s sg _ _ k t x2 acc (by rw [HBX.out]; exact HONE.out) HK.out, HBX.out]
              have e : 2048 - (acc ++ [(⟨k, t, x⟩ : Tok)]).length = 2047 - acc.length := by rw [List.length_append]; simp only [List.length_cons, List.length_nil]; omega
              rw [e]
            case measure =>
              simp [lenV]; omega

end Go.Proofs.YtejpjclbeogajaaDoor
