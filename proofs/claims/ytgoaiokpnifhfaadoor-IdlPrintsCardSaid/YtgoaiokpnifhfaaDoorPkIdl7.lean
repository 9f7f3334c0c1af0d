/-
  Parts: Idl7, Idl8, Idl9.
-/
import Derived.Test.YtgoaiokpnifhfaaDoorPkIdl5
import Derived.Deep.RegionLaw
import Derived.Deep.DeepCutAuto
import Derived.Deep.DrawnRows

/-
  Layer 4: an enum.
-/
namespace Go.Proofs.YtgoaiokpnifhfaaDoor
open Go.RowKit
set_option linter.unusedVariables false
set_option linter.unusedSimpArgs false
attribute [local go_sem ↓] Go.wp_at_zero Go.wp_at_succ

/-- where an enum's reading stands -/
structure ChoI (w0 : World) (P g cap : Nat) (l : List Tok) (B O : Nat) (nm : ByteArray) (ps : Nat) (v : Value) (σ : PS) (acc : List Tok) (w : World) : Prop where
  post : ParPost w0 P g cap l σ w
  box : w.heap[B]? = some (.cells #[.pointer (some ⟨P, 0, none⟩)] 177 (0, 0))
  out : w.heap[O]? = some (.cells #[.string nm, .int .i64 (ps : Int), v] 190 (0, 0))
  own : w.ownsRow (O + 1) 102 3 v acc.length (tokCells acc)
theorem ChoI.step {w0 : World} {P g cap : Nat} {l : List Tok} {B O : Nat} {nm : ByteArray} {ps : Nat} {v : Value} {σ τ : PS} {acc : List Tok} {w w' : World} (h : ChoI w0 P g cap l B O nm ps v σ acc w) (k : Places w0 P g B O) (h2 : ParPost w P g cap l τ w') : ChoI w0 P g cap l B O nm ps v τ acc w' := by
  have := k.p; have := k.b; have := k.o; have := k.bo
  have hne : ∀ q, v.ownBlock = some q → q ≠ P := fun q hq => by have := (h.own.lt q hq).1; omega
  exact ⟨h.post.trans h2, blk_grown h.box h2.grown (by omega), blk_grown h.out h2.grown (by omega), ownsRow_at h.own (fun q hq => h2.grown.block q (h.own.lt q hq).2 (fun e => hne q hq (Option.some.inj e)))⟩
theorem ChoI.new {w0 : World} {P g cap : Nat} {l : List Tok} {B O : Nat} {nm : ByteArray} {ps : Nat} {v : Value} {σ : PS} {acc : List Tok} {w w' : World} (h : ChoI w0 P g cap l B O nm ps v σ acc w) (hb : Below w.heap.size w w') : ChoI w0 P g cap l B O nm ps v σ acc w' :=
  ⟨h.post.below hb, blk_below h.box hb (blk_lt h.box), blk_below h.out hb (blk_lt h.out), ownsRow_at h.own (fun q hq => hb.block q (h.own.lt q hq).2)⟩
theorem tokCells_snoc (l : List Tok) (t : Tok) : tokCells l ++ [.int .i64 t.kind, .string t.text, .int .i64 (t.pos : Int)] = tokCells (l ++ [t]) := by simp [tokCells]
theorem ChoI.snoc {w0 : World} {P g cap : Nat} {l : List Tok} {B O : Nat} {nm : ByteArray} {ps : Nat} {v : Value} {σ : PS} {acc : List Tok} {w w2 : World} (h : ChoI w0 P g cap l B O nm ps v σ acc w) (k : Places w0 P g B O) (f : Tok) (a : Addr) (c n : Nat) (hn : n = acc.length + 1) (hg : w.grownBy w2 v.ownBlock)
    (ho : w2.ownsRow (O + 1) 102 3 (.slice (some a) n c) n (tokCells acc ++ [.int .i64 f.kind, .string f.text, .int .i64 (f.pos : Int)])) :
    ChoI w0 P g cap l B O nm ps (.slice (some a) n c) σ (acc ++ [f]) (w2.setCell ⟨O, 2, none⟩ (.slice (some a) n c)) := by
  have := k.p; have := k.g; have := k.b; have := k.o; have := k.bo
  have hne : ∀ q, v.ownBlock = some q → O + 1 ≤ q := fun q hq => (h.own.lt q hq).1
  have hB := blk_lt h.box
  have hO := blk_lt h.out
  have hb : w2.heap[B]? = _ := (hg.block B hB (fun e => by have := hne B e.symm; omega)).trans h.box
  have ho2 : w2.heap[O]? = _ := (hg.block O hO (fun e => by have := hne O e.symm; omega)).trans h.out
  refine ⟨(h.post.row hg (fun q hq => by have := hne q hq; omega) k.p k.g).far (by omega) k.p k.g 2 _, blk_set_ne hb _ (by simp; omega) _, by rw [blk_set ho2]; rfl, ?_⟩
  rw [← tokCells_snoc, List.length_append, List.length_cons, List.length_nil, ← hn]
  refine ownsRow_at ho (fun q hq => Below.heap_setCell _ _ _ _ ?_)
  have := (ho.lt q hq).1
  simp; omega
theorem news_tok (w : World) (a b c : Value) (T : TypeId) : ∀ j u, [a, b, c][j]? = some u → (w.alloc (.cells #[a, b, c] T)).cell? ((⟨w.heap.size, 0, none⟩ : Addr).add j) = some u := news_list w [a, b, c] T

theorem field_tok0 (w : World) (a b c : Value) : Sem.run Tryd.prog (Instr.field 102 (.agg #[a, b, c]) 0) w = .ok a w := by kernel_rfl
/-- a Go function's call, as one step of a region that draws -/
theorem step_call {Pr : Program} {ops : Array Oper} {o : Oper} {a : Act} {w : World} {K : Act → World → Prop} {Q : Exit → Act → World → Prop} {E : Prop} (hg : o.guard = none) (f : FuncId) (args : Array Value) (hrun : (execOp a.eval o).run Pr w = .ok (.enter f args) w)
    (v : Value) (S : World → Prop) (hC : Calls Pr f args w fun e w' => e = .returned v ∧ S w') (h : ∀ w', S w' → K (a.put o.dst v) w') : if Region.wanted o (yielded ops a.tmps) = true then Oper.wp Pr o a w K Q else E := by
  have hw : Region.wanted o (yielded ops a.tmps) = true := by simp [Region.wanted, hg]
  rw [if_pos hw]
  unfold Oper.wp
  rw [hrun]
  simp only [Oper.upon]
  exact hC.mono fun e w' hh => by obtain ⟨rfl, hs⟩ := hh; exact h w' hs

set_option maxHeartbeats 4000000 in
set_option maxRecDepth 100000 in
theorem item_calls (w0 : World) (P g cap : Nat) (l : List Tok) (B O : Nat) (nm : ByteArray) (ps : Nat) (v : Value) (σ : PS) (acc : List Tok) (w : World) (K : Places w0 P g B O) (hal : acc.length ≤ l.length) (h : ChoI w0 P g cap l B O nm ps v σ acc w) :
    Calls Tryd.prog 165 #[.pointer (some ⟨O, 0, none⟩), .pointer (some ⟨B, 0, none⟩)] w fun e w' => e = .returned (.tuple #[]) ∧ ∃ v', ChoI w0 P g cap l B O nm ps v' (itemS l σ) (acc ++ [nameV l false σ]) w' := by
  obtain ⟨av, cv, rfl⟩ := own_len h.own
  obtain ⟨it, hit, hzt0, hzt1, hzt2⟩ := info_parts info_token
  have HK := Lib.hid K
  have H := Lib.hid h
  have b0 : w.cell? ⟨B, 0, none⟩ = some (.pointer (some ⟨P, 0, none⟩)) := by rw [blk_cell h.box]; rfl
  have c0 : w.cell? ⟨O, 2, none⟩ = some (.slice av acc.length cv) := by rw [blk_cell h.out]; rfl
  have d0 : w.frozen? ⟨O, 2, none⟩ = false := blk_frozen h.out _
  have hsm := h.post.par.small
  have HPA := Lib.hid h.post.par
  obtain ⟨n, hn⟩ : ∃ n, nameV l false σ = n := ⟨_, rfl⟩
  obtain ⟨τ, hτ⟩ : ∃ τ, nameS l false σ = τ := ⟨_, rfl⟩
  have hnm := fun (W : World) (h : ParAt W P g cap l σ) => name_calls P g cap l σ false W h
  rw [hn, hτ] at hnm
  have hnm2 : ∀ (W : World), ParAt W P g cap l σ → Calls Tryd.prog 138 #[.pointer (some ⟨P, 0, none⟩), .bool false] W fun e w' => e = .returned (.agg #[.int .i64 n.kind, .string n.text, .int .i64 (n.pos : Int)]) ∧ ParPost W P g cap l τ w' := hnm
  have HNM := Lib.hid hnm2
  have HN := Lib.hid hn
  have HT := Lib.hid hτ
  have lO := blk_lt h.out
  have hOB : O ≠ B := by have := K.bo; omega
  clear h K hnm hnm2 hn hτ
  go_enter Tryd.func165, Tryd.ntmps165
  go_upto_region 0 with (fail)
  go_cut [2] (fun _ wc => ∃ v', ChoI w0 P g cap l B O nm ps v' τ (acc ++ [n]) wc)
  case first =>
    go_region_law (first
      | (refine step_append_lies _ (by rfl) _ _ 24 (by rfl) (O + 1) 102 it _ 3 32 Tryd.underlying24 hit hzt0 hzt1 hzt2 (by rfl) (by decide) _ _ _ (by rfl) (HCB.out.own.alloc _) ⟨wB.heap.size, 0, none⟩ 1 1 [.int .i64 n.kind, .string n.text, .int .i64 (n.pos : Int)] (by rfl) (by rfl) (news_tok _ _ _ _ _) (by simp [Value.oneCell']) (by decide) (by unfold maxLen; omega) (by omega) (by simp; have := blk_lt HCB.out.out; omega) _ rfl ?_; intro g2 cap2 w8 hown8 hgr8 hat8 hlt8; have hC8 := Lib.hid (show ChoI w0 P g cap l B O nm ps (.slice (some ⟨g2, 0, none⟩) (acc.length + 1) cap2) τ (acc ++ [n]) (w8.setCell ⟨O, 2, none⟩ (.slice (some ⟨g2, 0, none⟩) (acc.length + 1) cap2)) from (HCB.out.new (below1 _ _)).snoc HK.out n _ _ _ rfl hgr8 hown8); have hO8 : w8.heap[O]? = _ := (hgr8.block O (by simp; have := blk_lt HCB.out.out; omega) (fun e => by have := (HCB.out.own.lt _ e.symm).1; omega)).trans (blk_alloc HCB.out.out _); have c8 : w8.cell? ⟨O, 2, none⟩ = some (.slice av acc.length cv) := ((blk_cell hO8 2).trans rfl); have hB8 : w8.heap[B]? = _ := (hgr8.block B (by simp; have := blk_lt HCB.out.box; omega) (fun e => by have := (HCB.out.own.lt _ e.symm).1; have := HK.out.bo; omega)).trans (blk_alloc HCB.out.box _); have b8 : w8.cell? ⟨B, 0, none⟩ = some (.pointer (some ⟨P, 0, none⟩)) := ((blk_cell hB8 0).trans rfl); have d8 : w8.frozen? ⟨O, 2, none⟩ = false := blk_frozen hO8 _; clear hO8 hB8 hgr8 hown8 hat8)
      | (refine step_call (by rfl) 138 #[.pointer (some ⟨P, 0, none⟩), .bool false] (by go_simp) _ _ (HNM.out _ (HPA.out.below (Below.drew (Below.refl _ _)))) ?_; intro wB hpB; have HCB := Lib.hid ((H.out.new (Below.drew (Below.refl _ _))).step HK.out hpB); have c1 : wB.cell? ⟨O, 2, none⟩ = some (.slice av acc.length cv) := ((blk_cell HCB.out.out 2).trans rfl); have b1 : wB.cell? ⟨B, 0, none⟩ = some (.pointer (some ⟨P, 0, none⟩)) := ((blk_cell HCB.out.box 0).trans rfl); have d1 : wB.frozen? ⟨O, 2, none⟩ = false := blk_frozen HCB.out.out _; have lOB := blk_lt HCB.out.out; have lBB := blk_lt HCB.out.box; clear hpB))
    all_goals go_wp2_with fail
    all_goals go_meet
    all_goals exact ⟨_, hC8.out⟩
  obtain ⟨v2, hC2⟩ := hcut
  have b2 : wc.cell? ⟨B, 0, none⟩ = some (.pointer (some ⟨P, 0, none⟩)) := by rw [blk_cell hC2.box]; rfl
  have HC2 := Lib.hid hC2
  have lB2 := blk_lt hC2.box
  have hne : B ≠ P := HK.out.b
  have kf := fun (w : World) (a b c : Value) => field_tok0 w a b c
  have kf1 := fun (w : World) (a b c : Value) => field_tok1 w a b c
  have hi : itemS l σ = if isT l 4 cComma τ = true then goS τ else if (hereT l τ.a).kind = 4 ∧ eqS (hereT l τ.a).text cClose = true then τ else failS l 11 τ := by rw [itemS, HT.out]
  have HI := Lib.hid hi
  clear b0 c0 d0 hC2 hi lO
  go_wp2_with fail
  refine (sign_calls P g cap l τ cComma wc HC2.out.post.par).mono ?_
  rintro e w2 ⟨rfl, hp2⟩
  have hC3 := HC2.out.step HK.out hp2
  clear hp2
  cases ht : isT l 4 cComma τ with
  | true =>
    have HR := Lib.hid (show itemS l σ = goS τ by rw [HI.out, if_pos ht])
    rw [show takeS l 4 cComma τ = goS τ by rw [takeS, if_pos ht]] at hC3
    have HC3 := Lib.hid hC3
    clear hC3 ht b2
    go_wp2_with fail
    refine bodyPost_end (v := .tuple #[]) (by simp [results, Tryd.results165, go_sem]) rfl ?_
    exact ⟨rfl, _, by rw [HR.out, HN.out]; exact HC3.out⟩
  | false =>
    have HI2 := Lib.hid (show itemS l σ = if (hereT l τ.a).kind = 4 ∧ eqS (hereT l τ.a).text cClose = true then τ else failS l 11 τ by rw [HI.out, if_neg (by rw [ht]; simp)])
    rw [show takeS l 4 cComma τ = τ by rw [takeS, if_neg (by rw [ht]; simp)]] at hC3
    have b3 : w2.cell? ⟨B, 0, none⟩ = some (.pointer (some ⟨P, 0, none⟩)) := by rw [blk_cell hC3.box]; rfl
    have HC3 := Lib.hid hC3
    clear hC3 ht b2
    obtain ⟨t, htt⟩ : ∃ t, hereT l τ.a = t := ⟨_, rfl⟩
    have hh := fun (W : World) (h : ParAt W P g cap l τ) => here_calls P g cap l τ W h
    rw [htt] at hh HI2
    have hh2 : ∀ (W : World), ParAt W P g cap l τ → Calls Tryd.prog 134 #[.pointer (some ⟨P, 0, none⟩)] W fun e w' => e = .returned (.agg #[.int .i64 t.kind, .string t.text, .int .i64 (t.pos : Int)]) ∧ Below W.heap.size W w' := hh
    have HH := Lib.hid hh2
    clear hh hh2 htt
    go_wp2_with fail
    refine (HH.out _ HC3.out.post.par).mono ?_
    rintro e w4 ⟨rfl, hB4⟩
    have HC4 := Lib.hid (HC3.out.new hB4)
    have b4 : w4.cell? ⟨B, 0, none⟩ = some (.pointer (some ⟨P, 0, none⟩)) := by rw [blk_cell HC4.out.box]; rfl
    clear hB4 b3
    by_cases hk : t.kind = 4
    · have k1 : (t.kind != 4) = false := by rw [hk]; rfl
      have HKD := Lib.hid hk
      clear hk
      go_wp2_with fail
      refine (HH.out _ HC4.out.post.par).mono ?_
      rintro e w5 ⟨rfl, hB5⟩
      have HC5 := Lib.hid (HC4.out.new hB5)
      have b5 : w5.cell? ⟨B, 0, none⟩ = some (.pointer (some ⟨P, 0, none⟩)) := by rw [blk_cell HC5.out.box]; rfl
      clear hB5 b4
      have hcl : (!t.text.toList == [125]) = !eqS t.text cClose := by rw [eqS, Go.ByteArray.toList_eq]; rfl
      cases hq : eqS t.text cClose with
      | true =>
        rw [hq] at hcl
        have HR := Lib.hid (show itemS l σ = τ by rw [HI2.out, if_pos ⟨HKD.out, hq⟩])
        clear hq
        go_wp2_with fail
        refine bodyPost_end (v := .tuple #[]) (by simp [results, Tryd.results165, go_sem]) rfl ?_
        exact ⟨rfl, _, by rw [HR.out, HN.out]; exact HC5.out⟩
      | false =>
        rw [hq] at hcl
        have HR := Lib.hid (show itemS l σ = failS l 11 τ by rw [HI2.out, if_neg (fun h => by rw [hq] at h; cases h.2)])
        clear hq
        go_wp2_with fail
        refine (fail_calls P g cap l τ 11 (by decide) _ HC5.out.post.par).mono ?_
        rintro e w6 ⟨rfl, hp6⟩
        have HC6 := Lib.hid (HC5.out.step HK.out hp6)
        clear hp6 b5
        go_wp2_with fail
        refine bodyPost_end (v := .tuple #[]) (by simp [results, Tryd.results165, go_sem]) rfl ?_
        exact ⟨rfl, _, by rw [HR.out, HN.out]; exact HC6.out⟩
    · have k1 : (t.kind != 4) = true := by rw [bne_iff_ne]; exact hk
      have HR := Lib.hid (show itemS l σ = failS l 11 τ by rw [HI2.out, if_neg (fun h => hk h.1)])
      clear hk
      go_wp2_with fail
      refine (fail_calls P g cap l τ 11 (by decide) _ HC4.out.post.par).mono ?_
      rintro e w5 ⟨rfl, hp5⟩
      have HC5 := Lib.hid (HC4.out.step HK.out hp5)
      clear hp5 b4
      go_wp2_with fail
      refine bodyPost_end (v := .tuple #[]) (by simp [results, Tryd.results165, go_sem]) rfl ?_
      exact ⟨rfl, _, by rw [HR.out, HN.out]; exact HC5.out⟩

set_option maxRecDepth 100000 in
theorem enters_item : Enters 165 := fun _ _ => rfl

theorem cho_ser {w0 : World} {P g cap : Nat} {l : List Tok} {B O : Nat} (nm : ByteArray) (ps : Nat) (K : Places w0 P g B O) (hE : Ended l) :
    SerOf 165 #[.pointer (some ⟨O, 0, none⟩), .pointer (some ⟨B, 0, none⟩)] P g cap l (itemS l) (nameV l false) (fun σ acc w => ∃ v, ChoI w0 P g cap l B O nm ps v σ acc w) where
  ent := enters_item
  move := fun σ h => itemS_moves hE h
  par := fun σ acc w h => by obtain ⟨v, h⟩ := h; exact h.post.par
  step := fun σ acc w τ w' h h2 => by obtain ⟨v, h⟩ := h; exact ⟨v, h.step K h2⟩
  calls := fun σ acc w h0 hal h => by obtain ⟨v, h⟩ := h; exact item_calls w0 P g cap l B O nm ps v σ acc w K hal h

/-- what an enum's reading comes to -/
def ChoPost (w : World) (P g cap : Nat) (l : List Tok) (σ : PS) (e : Ending) (w' : World) : Prop :=
  ∃ v, e = .returned (.agg #[.string (choV l σ).name, .int .i64 ((choV l σ).pos : Int), v]) ∧ w'.ownsRow w.heap.size 102 3 v (choV l σ).names.length (tokCells (choV l σ).names) ∧ ParPost w P g cap l (choS l σ) w'

set_option maxHeartbeats 2000000 in
set_option maxRecDepth 100000 in
theorem choice_calls (P g cap : Nat) (l : List Tok) (σ : PS) (w : World) (h : ParAt w P g cap l σ) :
    Calls Tryd.prog 137 #[.pointer (some ⟨P, 0, none⟩)] w (ChoPost w P g cap l σ) := by
  have lP := blk_lt h.blk
  have lg := h.toks.lt h.ended.1
  have HE := Lib.hid h.ended
  have H := Lib.hid h
  have hn := fun (W : World) (h : ParAt W P g cap l σ) => name_calls P g cap l σ false W h
  have HN := Lib.hid hn
  clear h hn
  go_enter Tryd.func137, Tryd.ntmps137
  go_wp2_with fail
  obtain ⟨B, hB⟩ : ∃ B, B = w.heap.size := ⟨_, rfl⟩
  obtain ⟨W, hW⟩ : ∃ W, W = (w.alloc (Obj.cells #[Value.pointer (some ⟨P, 0, none⟩)] 177)).alloc (Obj.cells #[Value.string ⟨#[]⟩, Value.int .i64 0, Value.slice none 0 0] 190) := ⟨_, rfl⟩
  have hBW : Below w.heap.size w W := by rw [hW]; exact (below1 _ _).alloc (by simp) _
  have hbox : W.heap[B]? = some (Obj.cells #[Value.pointer (some ⟨P, 0, none⟩)] 177) := by rw [hW, hB]; exact blk_alloc (blk_new _ _) _
  have hres : W.heap[B + 1]? = some (Obj.cells #[Value.string ⟨#[]⟩, Value.int .i64 0, Value.slice none 0 0] 190) := by
    rw [hW, hB]
    have := blk_new (w.alloc (Obj.cells #[Value.pointer (some ⟨P, 0, none⟩)] 177)) (Obj.cells #[Value.string ⟨#[]⟩, Value.int .i64 0, Value.slice none 0 0] 190)
    rw [World.size_alloc] at this
    exact this
  rw [← hW, ← hB]
  refine (HN.out W (H.out.below hBW)).mono ?_
  rintro e w1 ⟨rfl, hp1⟩
  have hne : B ≠ P := by omega
  have hbox1 := blk_grown hbox hp1.grown hne
  have hres1 := blk_grown hres hp1.grown (by omega)
  have hPost1 := (ParPost.of_below H.out hBW).trans hp1
  obtain ⟨n, hnv⟩ : ∃ n, n = nameV l false σ := ⟨_, rfl⟩
  rw [← hnv]
  have hz1 := hPost1.grown.size
  obtain ⟨w0, hw0⟩ : ∃ w0, w0 = w1.alloc (Obj.cells #[Value.int .i64 n.kind, Value.string n.text, Value.int .i64 (n.pos : Int)] 102) := ⟨_, rfl⟩
  have b0 : w1.cell? ⟨B, 0, none⟩ = some (.pointer (some ⟨P, 0, none⟩)) := by rw [blk_cell hbox1]; rfl
  have lB := blk_lt hbox1
  have lR := blk_lt hres1
  have hb01 : Below w1.heap.size w1 w0 := by rw [hw0]; exact below1 _ _
  have hP0 := hPost1.below hb01
  have hbox0 := blk_below hbox1 hb01 lB
  have hres0 := blk_below hres1 hb01 lR
  have hsz0 : w0.heap.size = w1.heap.size + 1 := by rw [hw0]; simp
  obtain ⟨O, hO⟩ : ∃ O, O = w1.heap.size + 1 := ⟨_, rfl⟩
  have hK : Places w0 P g B O := ⟨by omega, by omega, hne, by omega, by omega⟩
  have hCho : ChoI w0 P g cap l B O n.text n.pos (.slice none 0 0) (nameS l false σ) [] (w0.alloc (Obj.cells #[Value.string n.text, Value.int .i64 (n.pos : Int), Value.slice none 0 0] 190)) := by
    refine ⟨ParPost.of_below hP0.par (below1 _ _), blk_alloc hbox0 _, ?_, World.ownsRow_nil _ _ _ _⟩
    rw [hO, ← hsz0]; exact blk_new _ _
  have HS := Lib.hid (series_calls _ _ P g cap l _ _ _ (cho_ser n.text n.pos hK HE.out) (nameS l false σ) _ ⟨_, hCho⟩)
  have HRV := Lib.hid (show choV l σ = ⟨n.text, n.pos, (serR l (itemS l) (nameV l false) (nameS l false σ)).1⟩ by rw [choV, ← hnv])
  have HRS : Hid (choS l σ = (serR l (itemS l) (nameV l false) (nameS l false σ)).2) := rfl
  have HP0 := Lib.hid hP0
  have HR0 := Lib.hid hres0
  have HW0 := Lib.hid hw0
  have hOw : w.heap.size ≤ O := by have := hBW.size; omega
  have hBw : w.heap.size ≤ B := by omega
  have hOB : B + 1 < O := by omega
  clear hbox hres hBW hW hbox1 hres1 hP0 hb01 hbox0 hres0 hCho hp1 hPost1 hK hnv hw0 hsz0 hB
  simp only [tokA]
  go_wp2_with fail
  rw [← HW0.out, ← hO]
  clear b0 hO
  refine HS.out.mono ?_
  rintro e w2 ⟨rfl, v, hR⟩
  obtain ⟨fs, hfs⟩ : ∃ fs, fs = (serR l (itemS l) (nameV l false) (nameS l false σ)).1 := ⟨_, rfl⟩
  obtain ⟨τ, hτ⟩ : ∃ τ, τ = (serR l (itemS l) (nameV l false) (nameS l false σ)).2 := ⟨_, rfl⟩
  rw [← hfs] at HRV hR
  rw [← hτ] at HRS hR
  have hO2 := hR.out
  have o0 : w2.cell? ⟨O, 0, none⟩ = some (.string n.text) := by rw [blk_cell hO2]; rfl
  have o1 : w2.cell? ⟨O, 1, none⟩ = some (.int .i64 (n.pos : Int)) := by rw [blk_cell hO2]; rfl
  have o2 : w2.cell? ⟨O, 2, none⟩ = some v := by rw [blk_cell hO2]; rfl
  have hR2 := blk_grown HR0.out hR.post.grown (by omega)
  have r0 : w2.cell? ⟨B + 1, 0, none⟩ = some (.string ⟨#[]⟩) := by rw [blk_cell hR2]; rfl
  have r1 : w2.cell? ⟨B + 1, 1, none⟩ = some (.int .i64 0) := by rw [blk_cell hR2]; rfl
  have r2 : w2.cell? ⟨B + 1, 2, none⟩ = some (.slice none 0 0) := by rw [blk_cell hR2]; rfl
  have z0 : w2.frozen? ⟨B + 1, 0, none⟩ = false := blk_frozen hR2 _
  have z1 : w2.frozen? ⟨B + 1, 1, none⟩ = false := blk_frozen hR2 _
  have z2 : w2.frozen? ⟨B + 1, 2, none⟩ = false := blk_frozen hR2 _
  have hne2 : B + 1 ≠ O := by omega
  have HRR := Lib.hid hR
  obtain ⟨av, cv, rfl⟩ := own_len hR.own
  clear hR hO2 hR2 hfs hτ HS
  go_wp2_with fail
  refine bodyPost_ret (v := .agg #[.string n.text, .int .i64 (n.pos : Int), .slice av fs.length cv]) (by simp [results, Tryd.results137, go_sem, *]) rfl ?_
  unfold ChoPost
  rw [HRV.out, HRS.out]
  refine ⟨_, rfl, ?_, ?_⟩
  · have ho := HRR.out.own
    refine ownsRow_base (ownsRow_at ho (fun q hq => ?_)) (base' := w.heap.size) (by omega)
    have := (ho.lt q hq).1
    rw [Below.heap_setCell _ _ _ _ (by simp; omega), Below.heap_setCell _ _ _ _ (by simp; omega), Below.heap_setCell _ _ _ _ (by simp; omega)]
  · exact (((HP0.out.trans HRR.out.post).far (by omega) lP lg 0 _).far (by omega) lP lg 1 _).far (by omega) lP lg 2 _


end Go.Proofs.YtgoaiokpnifhfaaDoor

/-
  Layer 4: a schema as it is written, in memory.
-/
namespace Go.Proofs.YtgoaiokpnifhfaaDoor
open Go.RowKit
set_option linter.unusedVariables false
set_option linter.unusedSimpArgs false

/-- a slice in memory, its block of a kind -/
def SliceAt (w : World) (A : Nat → Prop) (v : Value) (n : Nat) (cs : List Value) : Prop :=
  ∃ a c, v = .slice a n c ∧ (0 < n → ∃ q, a = some ⟨q, 0, none⟩ ∧ A q ∧ q < w.heap.size ∧ ∀ j u, cs[j]? = some u → w.cell? ⟨q, j, none⟩ = some u)
theorem SliceAt.kept {w w' : World} {A A' : Nat → Prop} {v : Value} {n : Nat} {cs : List Value} (h : SliceAt w A v n cs) (hs : w.heap.size ≤ w'.heap.size) (hk : ∀ q, A q → q < w.heap.size → w'.heap[q]? = w.heap[q]? ∧ A' q) : SliceAt w' A' v n cs := by
  obtain ⟨a, c, e, h⟩ := h
  refine ⟨a, c, e, fun h0 => ?_⟩
  obtain ⟨q, ea, ha, hq, hc⟩ := h h0
  have := hk q ha hq
  exact ⟨q, ea, this.2, by omega, fun j u hu => (World.cell?_of_block (w := w) (a := ⟨q, j, none⟩) this.1).trans (hc j u hu)⟩
theorem SliceAt.of_own {w : World} {A : Nat → Prop} {base : Nat} {E : TypeId} {sz : Nat} {v : Value} {n : Nat} {cs : List Value} (h : w.ownsRow base E sz v n cs) (hA : ∀ q, v.ownBlock = some q → base ≤ q → q < w.heap.size → A q) : SliceAt w A v n cs := by
  obtain ⟨a, c, rfl⟩ := own_len h
  refine ⟨a, c, rfl, fun h0 => ?_⟩
  obtain ⟨q, c', e, _, _⟩ := h.form h0
  cases e
  have hl := h.lt q rfl
  refine ⟨q, rfl, hA q rfl hl.1 hl.2, hl.2, fun j u hu => ?_⟩
  have := h.cells (g := q) rfl j u hu
  simpa [Addr.add_lit] using this

def hdCells {β : Type} (nm : β → ByteArray) (ps : β → Nat) : List β → List Value → List Value
  | b :: bs, v :: vs => .string (nm b) :: .int .i64 (ps b : Int) :: v :: hdCells nm ps bs vs
  | _, _ => []
def InnersAt {β : Type} (w : World) (A : Nat → Prop) (n : β → Nat) (cs : β → List Value) : List β → List Value → Prop
  | [], [] => True
  | b :: bs, v :: vs => SliceAt w A v (n b) (cs b) ∧ InnersAt w A n cs bs vs
  | _, _ => False
theorem InnersAt.kept {β : Type} {w w' : World} {A A' : Nat → Prop} {n : β → Nat} {cs : β → List Value} (hs : w.heap.size ≤ w'.heap.size) (hk : ∀ q, A q → q < w.heap.size → w'.heap[q]? = w.heap[q]? ∧ A' q) : ∀ (bs : List β) (vs : List Value), InnersAt w A n cs bs vs → InnersAt w' A' n cs bs vs
  | [], [], _ => trivial
  | b :: bs, v :: vs, h => ⟨h.1.kept hs hk, InnersAt.kept hs hk bs vs h.2⟩
  | [], _ :: _, h => h.elim
  | _ :: _, [], h => h.elim
theorem InnersAt.len {β : Type} {w : World} {A : Nat → Prop} {n : β → Nat} {cs : β → List Value} : ∀ (bs : List β) (vs : List Value), InnersAt w A n cs bs vs → bs.length = vs.length
  | [], [], _ => rfl
  | b :: bs, v :: vs, h => by simp [InnersAt.len bs vs h.2]
  | [], _ :: _, h => h.elim
  | _ :: _, [], h => h.elim
theorem InnersAt.snoc {β : Type} {w : World} {A : Nat → Prop} {n : β → Nat} {cs : β → List Value} {b : β} {v : Value} (hb : SliceAt w A v (n b) (cs b)) : ∀ (bs : List β) (vs : List Value), InnersAt w A n cs bs vs → InnersAt w A n cs (bs ++ [b]) (vs ++ [v])
  | [], [], _ => ⟨hb, trivial⟩
  | c :: bs, x :: vs, h => ⟨h.1, InnersAt.snoc hb bs vs h.2⟩
  | [], _ :: _, h => h.elim
  | _ :: _, [], h => h.elim
theorem hdCells_snoc {β : Type} (nm : β → ByteArray) (ps : β → Nat) (b : β) (v : Value) : ∀ (bs : List β) (vs : List Value), bs.length = vs.length → hdCells nm ps bs vs ++ [.string (nm b), .int .i64 (ps b : Int), v] = hdCells nm ps (bs ++ [b]) (vs ++ [v])
  | [], [], _ => rfl
  | c :: bs, x :: vs, h => by
    have := hdCells_snoc nm ps b v bs vs (by simpa using h)
    simp only [hdCells, List.cons_append, this]
  | [], _ :: _, h => by simp at h
  | _ :: _, [], h => by simp at h

def fldN (r : RRec) : Nat := r.fields.length
def fldC (r : RRec) : List Value := fldCells r.fields
def itmN (r : RChoice) : Nat := r.names.length
def itmC (r : RChoice) : List Value := tokCells r.names
def recsL (rs : List RRec) (vl : List Value) : List Value := hdCells RRec.name RRec.pos rs vl
def chosL (rs : List RChoice) (vl : List Value) : List Value := hdCells RChoice.name RChoice.pos rs vl

/-- blocks that lie apart from the growing rows -/
def ApartOf (O : Nat) (vs ve vr : Value) (q : Nat) : Prop := O < q ∧ vs.ownBlock ≠ some q ∧ ve.ownBlock ≠ some q ∧ vr.ownBlock ≠ some q

/-- where the whole text's reading stands -/
structure AllI (w0 : World) (P g cap : Nat) (l : List Tok) (O : Nat) (vs ve vr : Value) (sl el : List Value) (σ : PS) (r : RawD) (w : World) : Prop where
  post : ParPost w0 P g cap l σ w
  out : w.heap[O]? = some (.cells #[vs, ve, vr] 116 (0, 0))
  so : w.ownsRow (O + 1) 121 3 vs r.structs.length (recsL r.structs sl)
  eo : w.ownsRow (O + 1) 190 3 ve r.enums.length (chosL r.enums el)
  ro : w.ownsRow (O + 1) 102 3 vr r.roots.length (tokCells r.roots)
  si : InnersAt w (ApartOf O vs ve vr) fldN fldC r.structs sl
  ei : InnersAt w (ApartOf O vs ve vr) itmN itmC r.enums el
  d1 : ∀ q, vs.ownBlock = some q → ve.ownBlock ≠ some q ∧ vr.ownBlock ≠ some q
  d2 : ∀ q, ve.ownBlock = some q → vr.ownBlock ≠ some q
theorem AllI.step {w0 : World} {P g cap : Nat} {l : List Tok} {O : Nat} {vs ve vr : Value} {sl el : List Value} {σ τ : PS} {r : RawD} {w w' : World} (h : AllI w0 P g cap l O vs ve vr sl el σ r w) (hP : P < w0.heap.size) (hO : w0.heap.size ≤ O) (h2 : ParPost w P g cap l τ w') : AllI w0 P g cap l O vs ve vr sl el τ r w' := by
  have hk : ∀ q, O < q → q < w.heap.size → w'.heap[q]? = w.heap[q]? := fun q h3 h4 => h2.grown.block q h4 (fun e => by have e2 := Option.some.inj e; omega)
  have hsz := h2.grown.size
  exact ⟨h.post.trans h2, blk_grown h.out h2.grown (by omega), ownsRow_at h.so (fun q hq => hk q (by have := (h.so.lt q hq).1; omega) (h.so.lt q hq).2), ownsRow_at h.eo (fun q hq => hk q (by have := (h.eo.lt q hq).1; omega) (h.eo.lt q hq).2), ownsRow_at h.ro (fun q hq => hk q (by have := (h.ro.lt q hq).1; omega) (h.ro.lt q hq).2),
    h.si.kept hsz (fun q hq h4 => ⟨hk q hq.1 h4, hq⟩), h.ei.kept hsz (fun q hq h4 => ⟨hk q hq.1 h4, hq⟩), h.d1, h.d2⟩

/-- what an append to one of the rows does -/
structure Grows (O : Nat) (v v' : Value) (w w2 : World) : Prop where
  grown : w.grownBy w2 v.ownBlock
  at_ : ∀ q, v'.ownBlock = some q → v.ownBlock = some q ∨ q = w.heap.size
theorem AllI.apart {w0 : World} {P g cap : Nat} {l : List Tok} {O : Nat} {vs ve vr : Value} {sl el : List Value} {σ : PS} {r : RawD} {w : World} (h : AllI w0 P g cap l O vs ve vr sl el σ r w) : True := trivial

theorem AllI.structs {w0 : World} {P g cap : Nat} {l : List Tok} {O : Nat} {vs ve vr v' : Value} {sl el : List Value} {σ : PS} {r : RawD} {w w2 : World} (h : AllI w0 P g cap l O vs ve vr sl el σ r w) (hP : P < w0.heap.size) (hg : g < w0.heap.size) (hO : w0.heap.size ≤ O)
    (x : RRec) (vx : Value) (hx : SliceAt w (ApartOf O vs ve vr) vx (fldN x) (fldC x)) (G : Grows O vs v' w w2) (ho : w2.ownsRow (O + 1) 121 3 v' (r.structs.length + 1) (recsL r.structs sl ++ [.string x.name, .int .i64 (x.pos : Int), vx])) :
    AllI w0 P g cap l O v' ve vr (sl ++ [vx]) el σ ⟨r.structs ++ [x], r.enums, r.roots⟩ (w2.setCell ⟨O, 0, none⟩ v') := by
  have hsz := G.grown.size
  have hk : ∀ q, O < q → vs.ownBlock ≠ some q → q < w.heap.size → (w2.setCell ⟨O, 0, none⟩ v').heap[q]? = w.heap[q]? := fun q h3 h5 h4 => by
    rw [Below.heap_setCell _ _ _ _ (by simp; omega)]; exact G.grown.block q h4 (fun e => h5 e.symm)
  have hA : ∀ q, ApartOf O vs ve vr q → q < w.heap.size → (w2.setCell ⟨O, 0, none⟩ v').heap[q]? = w.heap[q]? ∧ ApartOf O v' ve vr q := fun q hq h4 => ⟨hk q hq.1 hq.2.1 h4, hq.1, fun e => by
    rcases G.at_ q e with e2 | e2
    · exact hq.2.1 e2
    · omega, hq.2.2.1, hq.2.2.2⟩
  have hsz2 : w.heap.size ≤ (w2.setCell ⟨O, 0, none⟩ v').heap.size := by rw [World.size_setCell]; exact hsz
  have hvO : ∀ q, vs.ownBlock = some q → O < q := fun q e => by have := (h.so.lt q e).1; omega
  have hlO := blk_lt h.out
  have ho2 : w2.heap[O]? = _ := (G.grown.block O hlO (fun e => by have := hvO O e.symm; omega)).trans h.out
  refine ⟨(h.post.row G.grown (fun q e => by have := hvO q e; omega) hP hg).far hO hP hg 0 v', by rw [blk_set ho2]; rfl, ?_, ?_, ?_, ?_, ?_, ?_, h.d2⟩
  · have hl : r.structs.length = sl.length := InnersAt.len _ _ h.si
    rw [show (r.structs ++ [x]).length = r.structs.length + 1 by simp]
    rw [show recsL (r.structs ++ [x]) (sl ++ [vx]) = recsL r.structs sl ++ [.string x.name, .int .i64 (x.pos : Int), vx] from (hdCells_snoc _ _ x vx _ _ hl).symm]
    exact ownsRow_at ho (fun q hq => Below.heap_setCell _ _ _ _ (by have := (ho.lt q hq).1; simp; omega))
  · exact ownsRow_at h.eo (fun q hq => hk q (by have := (h.eo.lt q hq).1; omega) (fun e => (h.d1 q e).1 hq) (h.eo.lt q hq).2)
  · exact ownsRow_at h.ro (fun q hq => hk q (by have := (h.ro.lt q hq).1; omega) (fun e => (h.d1 q e).2 hq) (h.ro.lt q hq).2)
  · exact (InnersAt.snoc hx _ _ h.si).kept hsz2 hA
  · exact h.ei.kept hsz2 hA
  · intro q e
    rcases G.at_ q e with e2 | e2
    · exact h.d1 q e2
    · exact ⟨fun e3 => by have := (h.eo.lt q e3).2; omega, fun e3 => by have := (h.ro.lt q e3).2; omega⟩

theorem AllI.enums {w0 : World} {P g cap : Nat} {l : List Tok} {O : Nat} {vs ve vr v' : Value} {sl el : List Value} {σ : PS} {r : RawD} {w w2 : World} (h : AllI w0 P g cap l O vs ve vr sl el σ r w) (hP : P < w0.heap.size) (hg : g < w0.heap.size) (hO : w0.heap.size ≤ O)
    (x : RChoice) (vx : Value) (hx : SliceAt w (ApartOf O vs ve vr) vx (itmN x) (itmC x)) (G : Grows O ve v' w w2) (ho : w2.ownsRow (O + 1) 190 3 v' (r.enums.length + 1) (chosL r.enums el ++ [.string x.name, .int .i64 (x.pos : Int), vx])) :
    AllI w0 P g cap l O vs v' vr sl (el ++ [vx]) σ ⟨r.structs, r.enums ++ [x], r.roots⟩ (w2.setCell ⟨O, 1, none⟩ v') := by
  have hsz := G.grown.size
  have hk : ∀ q, O < q → ve.ownBlock ≠ some q → q < w.heap.size → (w2.setCell ⟨O, 1, none⟩ v').heap[q]? = w.heap[q]? := fun q h3 h5 h4 => by
    rw [Below.heap_setCell _ _ _ _ (by simp; omega)]; exact G.grown.block q h4 (fun e => h5 e.symm)
  have hA : ∀ q, ApartOf O vs ve vr q → q < w.heap.size → (w2.setCell ⟨O, 1, none⟩ v').heap[q]? = w.heap[q]? ∧ ApartOf O vs v' vr q := fun q hq h4 => ⟨hk q hq.1 hq.2.2.1 h4, hq.1, hq.2.1, fun e => by
    rcases G.at_ q e with e2 | e2
    · exact hq.2.2.1 e2
    · omega, hq.2.2.2⟩
  have hsz2 : w.heap.size ≤ (w2.setCell ⟨O, 1, none⟩ v').heap.size := by rw [World.size_setCell]; exact hsz
  have hvO : ∀ q, ve.ownBlock = some q → O < q := fun q e => by have := (h.eo.lt q e).1; omega
  have hlO := blk_lt h.out
  have ho2 : w2.heap[O]? = _ := (G.grown.block O hlO (fun e => by have := hvO O e.symm; omega)).trans h.out
  refine ⟨(h.post.row G.grown (fun q e => by have := hvO q e; omega) hP hg).far hO hP hg 1 v', by rw [blk_set ho2]; rfl, ?_, ?_, ?_, ?_, ?_, ?_, ?_⟩
  · exact ownsRow_at h.so (fun q hq => hk q (by have := (h.so.lt q hq).1; omega) (fun e => (h.d1 q hq).1 e) (h.so.lt q hq).2)
  · have hl : r.enums.length = el.length := InnersAt.len _ _ h.ei
    rw [show (r.enums ++ [x]).length = r.enums.length + 1 by simp]
    rw [show chosL (r.enums ++ [x]) (el ++ [vx]) = chosL r.enums el ++ [.string x.name, .int .i64 (x.pos : Int), vx] from (hdCells_snoc _ _ x vx _ _ hl).symm]
    exact ownsRow_at ho (fun q hq => Below.heap_setCell _ _ _ _ (by have := (ho.lt q hq).1; simp; omega))
  · exact ownsRow_at h.ro (fun q hq => hk q (by have := (h.ro.lt q hq).1; omega) (fun e => h.d2 q e hq) (h.ro.lt q hq).2)
  · exact h.si.kept hsz2 hA
  · exact (InnersAt.snoc hx _ _ h.ei).kept hsz2 hA
  · intro q e
    refine ⟨fun e3 => ?_, (h.d1 q e).2⟩
    rcases G.at_ q e3 with e2 | e2
    · exact (h.d1 q e).1 e2
    · have := (h.so.lt q e).2; omega
  · intro q e
    rcases G.at_ q e with e2 | e2
    · exact h.d2 q e2
    · exact fun e3 => by have := (h.ro.lt q e3).2; omega

theorem AllI.roots {w0 : World} {P g cap : Nat} {l : List Tok} {O : Nat} {vs ve vr v' : Value} {sl el : List Value} {σ : PS} {r : RawD} {w w2 : World} (h : AllI w0 P g cap l O vs ve vr sl el σ r w) (hP : P < w0.heap.size) (hg : g < w0.heap.size) (hO : w0.heap.size ≤ O)
    (x : Tok) (G : Grows O vr v' w w2) (ho : w2.ownsRow (O + 1) 102 3 v' (r.roots.length + 1) (tokCells r.roots ++ [.int .i64 x.kind, .string x.text, .int .i64 (x.pos : Int)])) :
    AllI w0 P g cap l O vs ve v' sl el σ ⟨r.structs, r.enums, r.roots ++ [x]⟩ (w2.setCell ⟨O, 2, none⟩ v') := by
  have hsz := G.grown.size
  have hk : ∀ q, O < q → vr.ownBlock ≠ some q → q < w.heap.size → (w2.setCell ⟨O, 2, none⟩ v').heap[q]? = w.heap[q]? := fun q h3 h5 h4 => by
    rw [Below.heap_setCell _ _ _ _ (by simp; omega)]; exact G.grown.block q h4 (fun e => h5 e.symm)
  have hA : ∀ q, ApartOf O vs ve vr q → q < w.heap.size → (w2.setCell ⟨O, 2, none⟩ v').heap[q]? = w.heap[q]? ∧ ApartOf O vs ve v' q := fun q hq h4 => ⟨hk q hq.1 hq.2.2.2 h4, hq.1, hq.2.1, hq.2.2.1, fun e => by
    rcases G.at_ q e with e2 | e2
    · exact hq.2.2.2 e2
    · omega⟩
  have hsz2 : w.heap.size ≤ (w2.setCell ⟨O, 2, none⟩ v').heap.size := by rw [World.size_setCell]; exact hsz
  have hvO : ∀ q, vr.ownBlock = some q → O < q := fun q e => by have := (h.ro.lt q e).1; omega
  have hlO := blk_lt h.out
  have ho2 : w2.heap[O]? = _ := (G.grown.block O hlO (fun e => by have := hvO O e.symm; omega)).trans h.out
  refine ⟨(h.post.row G.grown (fun q e => by have := hvO q e; omega) hP hg).far hO hP hg 2 v', by rw [blk_set ho2]; rfl, ?_, ?_, ?_, ?_, ?_, ?_, ?_⟩
  · exact ownsRow_at h.so (fun q hq => hk q (by have := (h.so.lt q hq).1; omega) (fun e => (h.d1 q hq).2 e) (h.so.lt q hq).2)
  · exact ownsRow_at h.eo (fun q hq => hk q (by have := (h.eo.lt q hq).1; omega) (fun e => h.d2 q hq e) (h.eo.lt q hq).2)
  · rw [show (r.roots ++ [x]).length = r.roots.length + 1 by simp, ← tokCells_snoc]
    exact ownsRow_at ho (fun q hq => Below.heap_setCell _ _ _ _ (by have := (ho.lt q hq).1; simp; omega))
  · exact h.si.kept hsz2 hA
  · exact h.ei.kept hsz2 hA
  · intro q e
    refine ⟨(h.d1 q e).1, fun e3 => ?_⟩
    rcases G.at_ q e3 with e2 | e2
    · exact (h.d1 q e).2 e2
    · have := (h.so.lt q e).2; omega
  · intro q e e3
    rcases G.at_ q e3 with e2 | e2
    · exact h.d2 q e e2
    · have := (h.eo.lt q e).2; omega

end Go.Proofs.YtgoaiokpnifhfaaDoor

/-
  Layer 4: the whole text.
-/
namespace Go.Proofs.YtgoaiokpnifhfaaDoor
open Go.RowKit
set_option linter.unusedVariables false
set_option linter.unusedSimpArgs false
attribute [local go_sem ↓] Go.wp_at_zero Go.wp_at_succ

/-- a Go function's call whose result is known but for one value, as one step of a region that draws -/
theorem step_callE {Pr : Program} {ops : Array Oper} {o : Oper} {a : Act} {w : World} {K : Act → World → Prop} {Q : Exit → Act → World → Prop} {E : Prop} (hg : o.guard = none) (f : FuncId) (args : Array Value) (hrun : (execOp a.eval o).run Pr w = .ok (.enter f args) w)
    (V : Value → Value) (S : Value → World → Prop) (hC : Calls Pr f args w fun e w' => ∃ x, e = .returned (V x) ∧ S x w') (h : ∀ x w', S x w' → K (a.put o.dst (V x)) w') : if Region.wanted o (yielded ops a.tmps) = true then Oper.wp Pr o a w K Q else E := by
  have hw : Region.wanted o (yielded ops a.tmps) = true := by simp [Region.wanted, hg]
  rw [if_pos hw]
  unfold Oper.wp
  rw [hrun]
  simp only [Oper.upon]
  exact hC.mono fun e w' hh => by obtain ⟨x, rfl, hs⟩ := hh; exact h x w' hs

theorem info_rec : (Tryd.prog.info? 121).map (fun i => (i.zero, i.size, i.bytes)) = some (some (.agg #[.string ⟨#[]⟩, .int .i64 0, .slice none 0 0]), 3, 48) := by kernel_rfl
theorem info_cho : (Tryd.prog.info? 190).map (fun i => (i.zero, i.size, i.bytes)) = some (some (.agg #[.string ⟨#[]⟩, .int .i64 0, .slice none 0 0]), 3, 48) := by kernel_rfl

/-- a schema as it is written, in memory -/
def RawIn (w : World) (A : Nat → Prop) (vs ve vr : Value) (r : RawD) : Prop :=
  ∃ sl el, SliceAt w A vs r.structs.length (recsL r.structs sl) ∧ SliceAt w A ve r.enums.length (chosL r.enums el) ∧ SliceAt w A vr r.roots.length (tokCells r.roots) ∧ InnersAt w A fldN fldC r.structs sl ∧ InnersAt w A itmN itmC r.enums el
def RawAt (w : World) (vs ve vr : Value) (r : RawD) : Prop := RawIn w (fun _ => True) vs ve vr r
theorem RawIn.kept {w w' : World} {A A' : Nat → Prop} {vs ve vr : Value} {r : RawD} (h : RawIn w A vs ve vr r) (hs : w.heap.size ≤ w'.heap.size) (hk : ∀ q, A q → q < w.heap.size → w'.heap[q]? = w.heap[q]? ∧ A' q) : RawIn w' A' vs ve vr r := by
  obtain ⟨sl, el, h1, h2, h3, h4, h5⟩ := h
  exact ⟨sl, el, h1.kept hs hk, h2.kept hs hk, h3.kept hs hk, h4.kept hs hk, h5.kept hs hk⟩
theorem RawAt.below {w w' : World} {vs ve vr : Value} {r : RawD} (h : RawAt w vs ve vr r) (hb : Below w.heap.size w w') : RawAt w' vs ve vr r := RawIn.kept h hb.size (fun q _ hq => ⟨hb.block q hq, trivial⟩)
theorem RawIn.far {w : World} {O R : Nat} {vs ve vr : Value} {r : RawD} (h : RawIn w (fun q => O < q) vs ve vr r) (hR : R < O) (j : Nat) (x : Value) : RawIn (w.setCell ⟨R, j, none⟩ x) (fun q => O < q) vs ve vr r :=
  h.kept (by rw [World.size_setCell]; exact Nat.le_refl _) (fun q hq _ => ⟨Below.heap_setCell _ _ _ _ (by simp at hq ⊢; omega), hq⟩)
theorem RawIn.setc {w : World} {A : Nat → Prop} {R : Nat} {vs ve vr : Value} {r : RawD} (h : RawIn w A vs ve vr r) (hR : ∀ q, A q → q ≠ R) (j : Nat) (x : Value) : RawIn (w.setCell ⟨R, j, none⟩ x) A vs ve vr r :=
  h.kept (by rw [World.size_setCell]; exact Nat.le_refl _) (fun q hq _ => ⟨Below.heap_setCell _ _ _ _ (hR q hq), hq⟩)
theorem RawIn.raw {w : World} {A : Nat → Prop} {vs ve vr : Value} {r : RawD} (h : RawIn w A vs ve vr r) : RawAt w vs ve vr r := h.kept (Nat.le_refl _) (fun _ _ _ => ⟨rfl, trivial⟩)
theorem AllI.rawIn {w0 : World} {P g cap : Nat} {l : List Tok} {O : Nat} {vs ve vr : Value} {sl el : List Value} {σ : PS} {r : RawD} {w : World} (h : AllI w0 P g cap l O vs ve vr sl el σ r w) : RawIn w (fun q => O < q) vs ve vr r :=
  ⟨sl, el, SliceAt.of_own h.so (fun q _ h3 _ => Nat.lt_of_lt_of_le (Nat.lt_succ_self O) h3), SliceAt.of_own h.eo (fun q _ h3 _ => Nat.lt_of_lt_of_le (Nat.lt_succ_self O) h3), SliceAt.of_own h.ro (fun q _ h3 _ => Nat.lt_of_lt_of_le (Nat.lt_succ_self O) h3), h.si.kept (Nat.le_refl _) (fun q hq _ => ⟨rfl, hq.1⟩), h.ei.kept (Nat.le_refl _) (fun q hq _ => ⟨rfl, hq.1⟩)⟩
theorem AllI.apart_new {w0 : World} {P g cap : Nat} {l : List Tok} {O : Nat} {vs ve vr : Value} {sl el : List Value} {σ : PS} {r : RawD} {w : World} (h : AllI w0 P g cap l O vs ve vr sl el σ r w) {q : Nat} (hq : w.heap.size ≤ q) : ApartOf O vs ve vr q :=
  ⟨by have := blk_lt h.out; omega, fun e => by have := (h.so.lt q e).2; omega, fun e => by have := (h.eo.lt q e).2; omega, fun e => by have := (h.ro.lt q e).2; omega⟩
theorem grows_of {O : Nat} {v : Value} {w w2 : World} {g2 n c : Nat} (hg : w.grownBy w2 v.ownBlock) (ha : v.ownBlock = some g2 ∨ g2 = w.heap.size) : Grows O v (.slice (some ⟨g2, 0, none⟩) n c) w w2 :=
  ⟨hg, fun q e => by have e2 : g2 = q := Option.some.inj e; rw [← e2]; exact ha⟩
theorem all_struct_app {w0 : World} {P g cap : Nat} {l : List Tok} {O : Nat} {vs ve vr : Value} {sl el : List Value} {σ : PS} {r : RawD} {wB w8 : World} {o : Obj} (h : AllI w0 P g cap l O vs ve vr sl el σ r wB) (hP : P < w0.heap.size) (hg : g < w0.heap.size) (hO : w0.heap.size ≤ O)
    (X : RRec) (vx : Value) (hx : SliceAt wB (ApartOf O vs ve vr) vx (fldN X) (fldC X)) {g2 c : Nat} (hgr : (wB.alloc o).grownBy w8 vs.ownBlock) (ha : vs.ownBlock = some g2 ∨ g2 = (wB.alloc o).heap.size) (ho : w8.ownsRow (O + 1) 121 3 (.slice (some ⟨g2, 0, none⟩) (r.structs.length + 1) c) (r.structs.length + 1) (recsL r.structs sl ++ [.string X.name, .int .i64 (X.pos : Int), vx])) :
    AllI w0 P g cap l O (.slice (some ⟨g2, 0, none⟩) (r.structs.length + 1) c) ve vr (sl ++ [vx]) el σ ⟨r.structs ++ [X], r.enums, r.roots⟩ (w8.setCell ⟨O, 0, none⟩ (.slice (some ⟨g2, 0, none⟩) (r.structs.length + 1) c)) :=
  (h.step hP hO (ParPost.of_below h.post.par (below1 _ _))).structs hP hg hO X vx (hx.kept (by simp) (fun q hq hl => ⟨Below.heap_alloc _ _ _ hl, hq⟩)) (grows_of hgr ha) ho
theorem all_enum_app {w0 : World} {P g cap : Nat} {l : List Tok} {O : Nat} {vs ve vr : Value} {sl el : List Value} {σ : PS} {r : RawD} {wB w8 : World} {o : Obj} (h : AllI w0 P g cap l O vs ve vr sl el σ r wB) (hP : P < w0.heap.size) (hg : g < w0.heap.size) (hO : w0.heap.size ≤ O)
    (X : RChoice) (vx : Value) (hx : SliceAt wB (ApartOf O vs ve vr) vx (itmN X) (itmC X)) {g2 c : Nat} (hgr : (wB.alloc o).grownBy w8 ve.ownBlock) (ha : ve.ownBlock = some g2 ∨ g2 = (wB.alloc o).heap.size) (ho : w8.ownsRow (O + 1) 190 3 (.slice (some ⟨g2, 0, none⟩) (r.enums.length + 1) c) (r.enums.length + 1) (chosL r.enums el ++ [.string X.name, .int .i64 (X.pos : Int), vx])) :
    AllI w0 P g cap l O vs (.slice (some ⟨g2, 0, none⟩) (r.enums.length + 1) c) vr sl (el ++ [vx]) σ ⟨r.structs, r.enums ++ [X], r.roots⟩ (w8.setCell ⟨O, 1, none⟩ (.slice (some ⟨g2, 0, none⟩) (r.enums.length + 1) c)) :=
  (h.step hP hO (ParPost.of_below h.post.par (below1 _ _))).enums hP hg hO X vx (hx.kept (by simp) (fun q hq hl => ⟨Below.heap_alloc _ _ _ hl, hq⟩)) (grows_of hgr ha) ho
theorem all_root_app {w0 : World} {P g cap : Nat} {l : List Tok} {O : Nat} {vs ve vr : Value} {sl el : List Value} {σ : PS} {r : RawD} {wB w8 : World} {o : Obj} (h : AllI w0 P g cap l O vs ve vr sl el σ r wB) (hP : P < w0.heap.size) (hg : g < w0.heap.size) (hO : w0.heap.size ≤ O)
    (X : Tok) {g2 c : Nat} (hgr : (wB.alloc o).grownBy w8 vr.ownBlock) (ha : vr.ownBlock = some g2 ∨ g2 = (wB.alloc o).heap.size) (ho : w8.ownsRow (O + 1) 102 3 (.slice (some ⟨g2, 0, none⟩) (r.roots.length + 1) c) (r.roots.length + 1) (tokCells r.roots ++ [.int .i64 X.kind, .string X.text, .int .i64 (X.pos : Int)])) :
    AllI w0 P g cap l O vs ve (.slice (some ⟨g2, 0, none⟩) (r.roots.length + 1) c) sl el σ ⟨r.structs, r.enums, r.roots ++ [X]⟩ (w8.setCell ⟨O, 2, none⟩ (.slice (some ⟨g2, 0, none⟩) (r.roots.length + 1) c)) :=
  (h.step hP hO (ParPost.of_below h.post.par (below1 _ _))).roots hP hg hO X (grows_of hgr ha) ho
def AllPost (w : World) (P g cap : Nat) (l : List Tok) (e : Ending) (w' : World) : Prop :=
  ∃ vs ve vr, e = .returned (.agg #[vs, ve, vr]) ∧ RawIn w' (fun q => w.heap.size ≤ q) vs ve vr (allR l).1 ∧ ParPost w P g cap l (allR l).2 w'

def cntR (r : RawD) : Nat := r.structs.length + r.enums.length + r.roots.length
theorem declV_cnt (l : List Tok) (σ : PS) (r : RawD) : cntR (declV l σ r) ≤ cntR r + 1 := by
  unfold declV cntR
  repeat' split
  all_goals simp
  all_goals omega


set_option maxHeartbeats 8000000 in
set_option maxRecDepth 100000 in
theorem all_calls (P g cap : Nat) (l : List Tok) (w : World) (h : ParAt w P g cap l ⟨0, 0, 0⟩) :
    Calls Tryd.prog 101 #[.pointer (some ⟨P, 0, none⟩)] w (AllPost w P g cap l) := by
  have lP := blk_lt h.blk
  have lg := h.toks.lt h.ended.1
  have HE := Lib.hid h.ended
  have hsm := h.small
  have H := Lib.hid h
  obtain ⟨ir, hir, hr0, hr1, hr2⟩ := info_parts info_rec
  obtain ⟨ic, hic, hc0, hc1, hc2⟩ := info_parts info_cho
  obtain ⟨it, hit, ht0, ht1, ht2⟩ := info_parts info_token
  have kf := fun (w : World) (a b c : Value) => field_tok0 w a b c
  have hz : allR l = allLoop l (l.length + 1) ⟨0, 0, 0⟩ ⟨[], [], []⟩ := rfl
  have HZ := Lib.hid hz
  clear h hz
  go_enter Tryd.func101, Tryd.ntmps101
  go_wp2_with fail
  obtain ⟨R, hR⟩ : ∃ R, R = w.heap.size := ⟨_, rfl⟩
  obtain ⟨w0, hw0⟩ : ∃ w0, w0 = w.alloc (Obj.cells #[Value.slice none 0 0, Value.slice none 0 0, Value.slice none 0 0] 116) := ⟨_, rfl⟩
  have hb0 : Below w.heap.size w w0 := by rw [hw0]; exact below1 _ _
  have hRes : w0.heap[R]? = some (Obj.cells #[Value.slice none 0 0, Value.slice none 0 0, Value.slice none 0 0] 116) := by rw [hw0, hR]; exact blk_new _ _
  have hs0 : w0.heap.size = w.heap.size + 1 := by rw [hw0]; simp
  obtain ⟨O, hO⟩ : ∃ O, O = w.heap.size + 1 := ⟨_, rfl⟩
  have hP0 : P < w0.heap.size := by omega
  have hg0 : g < w0.heap.size := by omega
  have hO0 : w0.heap.size ≤ O := by omega
  have hRO : R < O := by omega
  have hRw : w.heap.size ≤ R := by omega
  have hA0 : AllI w0 P g cap l O (.slice none 0 0) (.slice none 0 0) (.slice none 0 0) [] [] ⟨0, 0, 0⟩ ⟨[], [], []⟩ (w0.alloc (Obj.cells #[Value.slice none 0 0, Value.slice none 0 0, Value.slice none 0 0] 116)) := by
    refine ⟨ParPost.of_below (H.out.below hb0) (below1 _ _), ?_, World.ownsRow_nil _ _ _ _, World.ownsRow_nil _ _ _ _, World.ownsRow_nil _ _ _ _, trivial, trivial, (fun q e => by cases e), (fun q e => by cases e)⟩
    rw [hO, ← hs0]; exact blk_new _ _
  rw [← hw0, ← hO, ← hR]
  have HA0 := Lib.hid hA0
  have HB0 := Lib.hid hb0
  have HRES := Lib.hid hRes
  clear hA0 hb0 hRes hw0 hR hO hs0
  go_loopw [4] (fun _ wr => ∃ (f : Nat) (τ : PS) (r : RawD) (vs ve vr : Value) (sl el : List Value), left l τ ≤ f ∧ cntR r + left l τ ≤ l.length + 1 ∧ Hid (allR l = allLoop l f τ r) ∧ Hid (AllI w0 P g cap l O vs ve vr sl el τ r wr)) (fun _ wr => parLeft wr P l)
  case atStart => exact ⟨l.length + 1, _, _, _, _, _, [], [], left_le, by have := @left_le l ⟨0, 0, 0⟩; simp [cntR]; omega, HZ.out, HA0.out⟩
  case round =>
    obtain ⟨f, τ, r, vs, ve, vr, sl, el, hf, hcn, hs, hI⟩ := hrel
    have hpar := hI.out.post.par
    have p2 : wr.cell? ⟨P, 2, none⟩ = some (.int .i64 τ.c) := by rw [blk_cell hpar.blk]; rfl
    have lPr := blk_lt hpar.blk
    have HPL := Lib.hid (parLeft_of hpar)
    obtain ⟨t, htt⟩ : ∃ t, hereT l τ.a = t := ⟨_, rfl⟩
    have hh := fun (W : World) (h : ParAt W P g cap l τ) => here_calls P g cap l τ W h
    rw [htt] at hh
    have hh2 : ∀ (W : World), ParAt W P g cap l τ → Calls Tryd.prog 134 #[.pointer (some ⟨P, 0, none⟩)] W fun e w' => e = .returned (.agg #[.int .i64 t.kind, .string t.text, .int .i64 (t.pos : Int)]) ∧ Below W.heap.size W w' := hh
    have HH := Lib.hid hh2
    have HTT := Lib.hid htt
    clear hh hh2 htt
    by_cases h0 : τ.c = 0
    · have b0 : (τ.c == 0) = true := by rw [beq_iff_eq]; exact h0
      by_cases hk : t.kind = 0
      · have k1 : (t.kind != 0) = false := by rw [hk]; rfl
        have HR := Lib.hid (show allR l = (r, τ) by rw [hs.out, allLoop_stop (fun h => h.2 (by rw [HTT.out]; exact hk))])
        clear h0 hk hpar
        go_wp2_with fail
        refine (HH.out _ hI.out.post.par).mono ?_
        rintro e w2 ⟨rfl, hB2⟩
        have hI2 := hI.out.step hP0 hO0 (ParPost.of_below hI.out.post.par hB2)
        clear hB2 p2
        have hO2 := hI2.out
        obtain ⟨avs, cvs, rfl⟩ := own_len hI2.so
        obtain ⟨ave, cve, rfl⟩ := own_len hI2.eo
        obtain ⟨avr, cvr, rfl⟩ := own_len hI2.ro
        have o0 : w2.cell? ⟨O, 0, none⟩ = some (.slice avs r.structs.length cvs) := by rw [blk_cell hO2]; rfl
        have o1 : w2.cell? ⟨O, 1, none⟩ = some (.slice ave r.enums.length cve) := by rw [blk_cell hO2]; rfl
        have o2 : w2.cell? ⟨O, 2, none⟩ = some (.slice avr r.roots.length cvr) := by rw [blk_cell hO2]; rfl
        have hR2 := blk_grown HRES.out hI2.post.grown (by omega)
        have r0 : w2.cell? ⟨R, 0, none⟩ = some (.slice none 0 0) := by rw [blk_cell hR2]; rfl
        have r1 : w2.cell? ⟨R, 1, none⟩ = some (.slice none 0 0) := by rw [blk_cell hR2]; rfl
        have r2 : w2.cell? ⟨R, 2, none⟩ = some (.slice none 0 0) := by rw [blk_cell hR2]; rfl
        have z0 : w2.frozen? ⟨R, 0, none⟩ = false := blk_frozen hR2 _
        have z1 : w2.frozen? ⟨R, 1, none⟩ = false := blk_frozen hR2 _
        have z2 : w2.frozen? ⟨R, 2, none⟩ = false := blk_frozen hR2 _
        have HI2 := Lib.hid hI2
        clear hI2 hO2 hR2
        go_wp2_with fail
        refine bodyPost_ret (v := .agg #[.slice avs r.structs.length cvs, .slice ave r.enums.length cve, .slice avr r.roots.length cvr]) (by simp [results, Tryd.results101, go_sem, *]) rfl ?_
        unfold AllPost
        rw [HR.out]
        exact ⟨_, _, _, rfl, (((HI2.out.rawIn.far hRO 0 _).far hRO 1 _).far hRO 2 _).kept (Nat.le_refl _) (fun q hq _ => ⟨rfl, (by have h9 : O < q := hq; omega : w.heap.size ≤ q)⟩), ((((ParPost.of_below H.out HB0.out).trans HI2.out.post).far hRw lP lg 0 _).far hRw lP lg 1 _).far hRw lP lg 2 _⟩
      · have k1 : (t.kind != 0) = true := by rw [bne_iff_ne]; exact hk
        have hst := allLoop_step (f := f) (r := r) hf hpar.fine h0 (by rw [HTT.out]; exact hk)
        obtain ⟨f', rfl, hst⟩ := hst
        have hmv := declS_moves HE.out hpar.fine
        have HML := Lib.hid (hmv.left h0 hpar.fine)
        have hff : left l (declS l τ) ≤ f' := by have := HML.out; omega
        have hcc : cntR (declV l τ r) + left l (declS l τ) ≤ l.length + 1 := by have := HML.out; have := declV_cnt l τ r; omega
        have hcl : cntR r ≤ l.length := by have := HML.out; omega
        have hls : r.structs.length ≤ l.length := by unfold cntR at hcl; omega
        have hle : r.enums.length ≤ l.length := by unfold cntR at hcl; omega
        have hlr : r.roots.length ≤ l.length := by unfold cntR at hcl; omega
        have HST := Lib.hid (hs.out.trans hst)
        clear h0 hk hpar hst hmv hcl hs
        go_wp2_with fail
        refine (HH.out _ hI.out.post.par).mono ?_
        rintro e w2 ⟨rfl, hB2⟩
        have HI2 := Lib.hid (hI.out.step hP0 hO0 (ParPost.of_below hI.out.post.par hB2))
        clear hB2 p2
        go_wp2_with fail
        refine (word_calls P g cap l τ cStruct w2 HI2.out.post.par).mono ?_
        rintro e w3 ⟨rfl, hp3⟩
        have hI3 := HI2.out.step hP0 hO0 hp3
        clear hp3
        cases h1 : isT l 1 cStruct τ with
        | true =>
          have HDS : declS l τ = recS l (goS τ) := by rw [declS, if_pos h1]
          have HDV : declV l τ r = ⟨r.structs ++ [recV l (goS τ)], r.enums, r.roots⟩ := by rw [declV, if_pos h1]
          rw [show takeS l 1 cStruct τ = goS τ by rw [takeS, if_pos h1]] at hI3
          obtain ⟨υ, hυ⟩ : ∃ υ, goS τ = υ := ⟨_, rfl⟩
          rw [hυ] at hI3 HDS HDV
          have hI3d := hI3.step hP0 hO0 (ParPost.of_below hI3.post.par (Below.drew (Below.refl _ _)))
          have hrec : Calls Tryd.prog 136 #[.pointer (some ⟨P, 0, none⟩)] w3.drew fun e w' => ∃ v, e = .returned ((fun v => .agg #[.string (recV l υ).name, .int .i64 ((recV l υ).pos : Int), v]) v) ∧ (fun v w' => w'.ownsRow w3.drew.heap.size 125 8 v (fldN (recV l υ)) (fldC (recV l υ)) ∧ ParPost w3.drew P g cap l (recS l υ) w') v w' := record_calls P g cap l υ _ (hI3.post.par.below (Below.drew (Below.refl _ _)))
          obtain ⟨X, hX⟩ : ∃ X, recV l υ = X := ⟨_, rfl⟩
          obtain ⟨ζ, hζ⟩ : ∃ ζ, recS l υ = ζ := ⟨_, rfl⟩
          rw [hX, hζ] at hrec
          rw [hX] at HDV
          rw [hζ] at HDS
          have HREC := Lib.hid hrec
          have HI3 := Lib.hid hI3
          have HI3d := Lib.hid hI3d
          have HDS := Lib.hid HDS
          have HDV := Lib.hid HDV
          clear hrec hI3 hI3d hX hζ hυ h1
          obtain ⟨av, cv, hav⟩ := own_len HI3d.out.so
          subst hav
          have c0 : w3.cell? ⟨O, 0, none⟩ = some (.slice av r.structs.length cv) := by rw [blk_cell HI3.out.out]; rfl
          have d0 : w3.frozen? ⟨O, 0, none⟩ = false := blk_frozen HI3.out.out _
          have lO3 := blk_lt HI3.out.out
          have hOP : O ≠ P := by omega
          go_wp2_with fail
          go_region_law (first
            | (refine step_append_lies _ (by rfl) _ _ 113 (by rfl) (O + 1) 121 ir _ 3 48 Tryd.underlying113 hir hr0 hr1 hr2 (by rfl) (by decide) _ _ _ (by rfl) (HB.out.so.alloc _) ⟨wB.heap.size, 0, none⟩ 1 1 [.string X.name, .int .i64 (X.pos : Int), .slice ax (fldN X) cx] (by rfl) (by rfl) (news_tok _ _ _ _ _) (by simp [Value.oneCell']) (by decide) (by unfold maxLen; omega) (by omega) (by simp; have := blk_lt HB.out.out; omega) _ rfl ?_; intro g2 cap2 w8 hown8 hgr8 hat8 hlt8; have hC8 := Lib.hid (all_struct_app HB.out hP0 hg0 hO0 X _ HXS.out hgr8 hat8 hown8); have hO8 : w8.heap[O]? = _ := (hgr8.block O (by simp; have := blk_lt HB.out.out; omega) (fun e => by have := (HB.out.so.lt _ e.symm).1; omega)).trans (blk_alloc HB.out.out _); have c8 : w8.cell? ⟨O, 0, none⟩ = some (.slice av r.structs.length cv) := ((blk_cell hO8 0).trans rfl); have d8 : w8.frozen? ⟨O, 0, none⟩ = false := blk_frozen hO8 _; clear hO8 hgr8 hown8 hat8)
            | (refine step_callE (by rfl) 136 #[.pointer (some ⟨P, 0, none⟩)] (by go_simp) _ _ HREC.out ?_; intro vx wB hS; have HB := Lib.hid (HI3d.out.step hP0 hO0 hS.2); have HXS := Lib.hid (SliceAt.of_own hS.1 (fun q _ h3 _ => HI3d.out.apart_new h3)); obtain ⟨ax, cx, hvx⟩ := own_len hS.1; subst hvx; have c1 : wB.cell? ⟨O, 0, none⟩ = _ := ((blk_cell HB.out.out 0).trans rfl); have lOB := blk_lt HB.out.out; clear hS))
          all_goals
            have HI9 := hC8
            go_wp2_with fail
            go_roundw
            case rel => exact ⟨f', _, _, _, _, _, _, _, hff, hcc, HST.out, by rw [HDS.out, HDV.out]; exact HI9.out⟩
            case measure => rw [parLeft_of HI9.out.post.par, HPL.out, ← HDS.out]; exact HML.out
        | false =>
          have h0s := Lib.hid h1
          rw [show takeS l 1 cStruct τ = τ by rw [takeS, if_neg (by rw [h1]; simp)]] at hI3
          have HI3 := Lib.hid hI3
          clear h1 hI3
          go_wp2_with fail
          refine (word_calls P g cap l τ cEnum _ HI3.out.post.par).mono ?_
          rintro e w4 ⟨rfl, hp4⟩
          have hI4 := HI3.out.step hP0 hO0 hp4
          clear hp4 HI3
          cases h2 : isT l 1 cEnum τ with
          | true =>
            have HDS : declS l τ = choS l (goS τ) := by rw [declS, if_neg (by rw [h0s.out]; simp), if_pos h2]
            have HDV : declV l τ r = ⟨r.structs, r.enums ++ [choV l (goS τ)], r.roots⟩ := by rw [declV, if_neg (by rw [h0s.out]; simp), if_pos h2]
            rw [show takeS l 1 cEnum τ = goS τ by rw [takeS, if_pos h2]] at hI4
            obtain ⟨υ, hυ⟩ : ∃ υ, goS τ = υ := ⟨_, rfl⟩
            rw [hυ] at hI4 HDS HDV
            have hI4d := hI4.step hP0 hO0 (ParPost.of_below hI4.post.par (Below.drew (Below.refl _ _)))
            have hrec : Calls Tryd.prog 137 #[.pointer (some ⟨P, 0, none⟩)] w4.drew fun e w' => ∃ v, e = .returned ((fun v => .agg #[.string (choV l υ).name, .int .i64 ((choV l υ).pos : Int), v]) v) ∧ (fun v w' => w'.ownsRow w4.drew.heap.size 102 3 v (itmN (choV l υ)) (itmC (choV l υ)) ∧ ParPost w4.drew P g cap l (choS l υ) w') v w' := choice_calls P g cap l υ _ (hI4.post.par.below (Below.drew (Below.refl _ _)))
            obtain ⟨X, hX⟩ : ∃ X, choV l υ = X := ⟨_, rfl⟩
            obtain ⟨ζ, hζ⟩ : ∃ ζ, choS l υ = ζ := ⟨_, rfl⟩
            rw [hX, hζ] at hrec
            rw [hX] at HDV
            rw [hζ] at HDS
            have HREC := Lib.hid hrec
            have HI4 := Lib.hid hI4
            have HI4d := Lib.hid hI4d
            have HDS := Lib.hid HDS
            have HDV := Lib.hid HDV
            clear hrec hI4 hI4d hX hζ hυ h2
            obtain ⟨av, cv, hav⟩ := own_len HI4d.out.eo
            subst hav
            have c0 : w4.cell? ⟨O, 1, none⟩ = some (.slice av r.enums.length cv) := by rw [blk_cell HI4.out.out]; rfl
            have d0 : w4.frozen? ⟨O, 1, none⟩ = false := blk_frozen HI4.out.out _
            have lO4 := blk_lt HI4.out.out
            have hOP : O ≠ P := by omega
            go_wp2_with fail
            go_region_law (first
              | (refine step_append_lies _ (by rfl) _ _ 114 (by rfl) (O + 1) 190 ic _ 3 48 Tryd.underlying114 hic hc0 hc1 hc2 (by rfl) (by decide) _ _ _ (by rfl) (HB.out.eo.alloc _) ⟨wB.heap.size, 0, none⟩ 1 1 [.string X.name, .int .i64 (X.pos : Int), .slice ax (itmN X) cx] (by rfl) (by rfl) (news_tok _ _ _ _ _) (by simp [Value.oneCell']) (by decide) (by unfold maxLen; omega) (by omega) (by simp; have := blk_lt HB.out.out; omega) _ rfl ?_; intro g2 cap2 w8 hown8 hgr8 hat8 hlt8; have hC8 := Lib.hid (all_enum_app HB.out hP0 hg0 hO0 X _ HXS.out hgr8 hat8 hown8); have hO8 : w8.heap[O]? = _ := (hgr8.block O (by simp; have := blk_lt HB.out.out; omega) (fun e => by have := (HB.out.eo.lt _ e.symm).1; omega)).trans (blk_alloc HB.out.out _); have c8 : w8.cell? ⟨O, 1, none⟩ = some (.slice av r.enums.length cv) := ((blk_cell hO8 1).trans rfl); have d8 : w8.frozen? ⟨O, 1, none⟩ = false := blk_frozen hO8 _; clear hO8 hgr8 hown8 hat8)
              | (refine step_callE (by rfl) 137 #[.pointer (some ⟨P, 0, none⟩)] (by go_simp) _ _ HREC.out ?_; intro vx wB hS; have HB := Lib.hid (HI4d.out.step hP0 hO0 hS.2); have HXS := Lib.hid (SliceAt.of_own hS.1 (fun q _ h3 _ => HI4d.out.apart_new h3)); obtain ⟨ax, cx, hvx⟩ := own_len hS.1; subst hvx; have c1 : wB.cell? ⟨O, 1, none⟩ = _ := ((blk_cell HB.out.out 1).trans rfl); have lOB := blk_lt HB.out.out; clear hS))
            all_goals
              have HI9 := hC8
              go_wp2_with fail
              go_roundw
              case rel => exact ⟨f', _, _, _, _, _, _, _, hff, hcc, HST.out, by rw [HDS.out, HDV.out]; exact HI9.out⟩
              case measure => rw [parLeft_of HI9.out.post.par, HPL.out, ← HDS.out]; exact HML.out
          | false =>
            have h0t := Lib.hid h2
            rw [show takeS l 1 cEnum τ = τ by rw [takeS, if_neg (by rw [h2]; simp)]] at hI4
            have HI4 := Lib.hid hI4
            clear h2 hI4
            go_wp2_with fail
            refine (word_calls P g cap l τ cRoot _ HI4.out.post.par).mono ?_
            rintro e w5 ⟨rfl, hp5⟩
            have hI5 := HI4.out.step hP0 hO0 hp5
            clear hp5 HI4
            cases h3 : isT l 1 cRoot τ with
            | true =>
              have HDS : declS l τ = wantS l cSemi (nameS l false (goS τ)) := by rw [declS, if_neg (by rw [h0s.out]; simp), if_neg (by rw [h0t.out]; simp), if_pos h3]
              have HDV : declV l τ r = ⟨r.structs, r.enums, r.roots ++ [nameV l false (goS τ)]⟩ := by rw [declV, if_neg (by rw [h0s.out]; simp), if_neg (by rw [h0t.out]; simp), if_pos h3]
              rw [show takeS l 1 cRoot τ = goS τ by rw [takeS, if_pos h3]] at hI5
              obtain ⟨υ, hυ⟩ : ∃ υ, goS τ = υ := ⟨_, rfl⟩
              rw [hυ] at hI5 HDS HDV
              have hI5d := hI5.step hP0 hO0 (ParPost.of_below hI5.post.par (Below.drew (Below.refl _ _)))
              have hrec : Calls Tryd.prog 138 #[.pointer (some ⟨P, 0, none⟩), .bool false] w5.drew fun e w' => e = .returned (.agg #[.int .i64 (nameV l false υ).kind, .string (nameV l false υ).text, .int .i64 ((nameV l false υ).pos : Int)]) ∧ ParPost w5.drew P g cap l (nameS l false υ) w' := name_calls P g cap l υ false _ (hI5.post.par.below (Below.drew (Below.refl _ _)))
              obtain ⟨X, hX⟩ : ∃ X, nameV l false υ = X := ⟨_, rfl⟩
              obtain ⟨ζ, hζ⟩ : ∃ ζ, nameS l false υ = ζ := ⟨_, rfl⟩
              rw [hX, hζ] at hrec
              rw [hX] at HDV
              rw [hζ] at HDS
              have HREC := Lib.hid hrec
              have HI5 := Lib.hid hI5
              have HI5d := Lib.hid hI5d
              have HDS := Lib.hid HDS
              have HDV := Lib.hid HDV
              clear hrec hI5 hI5d hX hζ hυ h3
              obtain ⟨av, cv, hav⟩ := own_len HI5d.out.ro
              subst hav
              have c0 : w5.cell? ⟨O, 2, none⟩ = some (.slice av r.roots.length cv) := by rw [blk_cell HI5.out.out]; rfl
              have d0 : w5.frozen? ⟨O, 2, none⟩ = false := blk_frozen HI5.out.out _
              have lO5 := blk_lt HI5.out.out
              have hOP : O ≠ P := by omega
              go_wp2_with fail
              go_region_law (first
                | (refine step_append_lies _ (by rfl) _ _ 24 (by rfl) (O + 1) 102 it _ 3 32 Tryd.underlying24 hit ht0 ht1 ht2 (by rfl) (by decide) _ _ _ (by rfl) (HB.out.ro.alloc _) ⟨wB.heap.size, 0, none⟩ 1 1 [.int .i64 X.kind, .string X.text, .int .i64 (X.pos : Int)] (by rfl) (by rfl) (news_tok _ _ _ _ _) (by simp [Value.oneCell']) (by decide) (by unfold maxLen; omega) (by omega) (by simp; have := blk_lt HB.out.out; omega) _ rfl ?_; intro g2 cap2 w8 hown8 hgr8 hat8 hlt8; have hC8 := Lib.hid (all_root_app HB.out hP0 hg0 hO0 X  hgr8 hat8 hown8); have hO8 : w8.heap[O]? = _ := (hgr8.block O (by simp; have := blk_lt HB.out.out; omega) (fun e => by have := (HB.out.ro.lt _ e.symm).1; omega)).trans (blk_alloc HB.out.out _); have c8 : w8.cell? ⟨O, 2, none⟩ = some (.slice av r.roots.length cv) := ((blk_cell hO8 2).trans rfl); have d8 : w8.frozen? ⟨O, 2, none⟩ = false := blk_frozen hO8 _; clear hO8 hgr8 hown8 hat8)
                | (refine step_call (by rfl) 138 #[.pointer (some ⟨P, 0, none⟩), .bool false] (by go_simp) _ _ HREC.out ?_; intro wB hS; have HB := Lib.hid (HI5d.out.step hP0 hO0 hS); have c1 : wB.cell? ⟨O, 2, none⟩ = _ := ((blk_cell HB.out.out 2).trans rfl); have lOB := blk_lt HB.out.out; clear hS))
              all_goals
                go_wp2_with fail
                refine (want_calls P g cap l ζ cSemi _ hC8.out.post.par).mono ?_
                rintro e w9 ⟨rfl, hp9⟩
                have hI9 := hC8.out.step hP0 hO0 hp9
                have HI9 := Lib.hid hI9
                clear hp9 hI9
                go_wp2_with fail
                go_roundw
                case rel => exact ⟨f', _, _, _, _, _, _, _, hff, hcc, HST.out, by rw [HDS.out, HDV.out]; exact HI9.out⟩
                case measure => rw [parLeft_of HI9.out.post.par, HPL.out, ← HDS.out]; exact HML.out
            | false =>
              have HDS := Lib.hid (show declS l τ = failS l 11 τ by rw [declS, if_neg (by rw [h0s.out]; simp), if_neg (by rw [h0t.out]; simp), if_neg (by rw [h3]; simp)])
              have HDV := Lib.hid (show declV l τ r = r by rw [declV, if_neg (by rw [h0s.out]; simp), if_neg (by rw [h0t.out]; simp), if_neg (by rw [h3]; simp)])
              rw [show takeS l 1 cRoot τ = τ by rw [takeS, if_neg (by rw [h3]; simp)]] at hI5
              have HI5 := Lib.hid hI5
              clear h3 hI5
              go_wp2_with fail
              refine (fail_calls P g cap l τ 11 (by decide) _ HI5.out.post.par).mono ?_
              rintro e w9 ⟨rfl, hp9⟩
              have hI9 := HI5.out.step hP0 hO0 hp9
              have HI9 := Lib.hid hI9
              clear hp9 hI9
              go_wp2_with fail
              go_roundw
              case rel => exact ⟨f', _, _, _, _, _, _, _, hff, hcc, HST.out, by rw [HDS.out, HDV.out]; exact HI9.out⟩
              case measure => rw [parLeft_of HI9.out.post.par, HPL.out, ← HDS.out]; exact HML.out
    · have b0 : (τ.c == 0) = false := by rw [beq_eq_false_iff_ne]; exact h0
      have HR := Lib.hid (show allR l = (r, τ) by rw [hs.out, allLoop_stop (fun h => h0 h.1)])
      have hI2 := hI.out
      clear h0 hpar
      rename World => w2
      have hO2 := hI2.out
      obtain ⟨avs, cvs, rfl⟩ := own_len hI2.so
      obtain ⟨ave, cve, rfl⟩ := own_len hI2.eo
      obtain ⟨avr, cvr, rfl⟩ := own_len hI2.ro
      have o0 : w2.cell? ⟨O, 0, none⟩ = some (.slice avs r.structs.length cvs) := by rw [blk_cell hO2]; rfl
      have o1 : w2.cell? ⟨O, 1, none⟩ = some (.slice ave r.enums.length cve) := by rw [blk_cell hO2]; rfl
      have o2 : w2.cell? ⟨O, 2, none⟩ = some (.slice avr r.roots.length cvr) := by rw [blk_cell hO2]; rfl
      have hR2 := blk_grown HRES.out hI2.post.grown (by omega)
      have r0 : w2.cell? ⟨R, 0, none⟩ = some (.slice none 0 0) := by rw [blk_cell hR2]; rfl
      have r1 : w2.cell? ⟨R, 1, none⟩ = some (.slice none 0 0) := by rw [blk_cell hR2]; rfl
      have r2 : w2.cell? ⟨R, 2, none⟩ = some (.slice none 0 0) := by rw [blk_cell hR2]; rfl
      have z0 : w2.frozen? ⟨R, 0, none⟩ = false := blk_frozen hR2 _
      have z1 : w2.frozen? ⟨R, 1, none⟩ = false := blk_frozen hR2 _
      have z2 : w2.frozen? ⟨R, 2, none⟩ = false := blk_frozen hR2 _
      have HI2 := Lib.hid hI2
      clear hI2 hO2 hR2
      go_wp2_with fail
      refine bodyPost_ret (v := .agg #[.slice avs r.structs.length cvs, .slice ave r.enums.length cve, .slice avr r.roots.length cvr]) (by simp [results, Tryd.results101, go_sem, *]) rfl ?_
      unfold AllPost
      rw [HR.out]
      exact ⟨_, _, _, rfl, (((HI2.out.rawIn.far hRO 0 _).far hRO 1 _).far hRO 2 _).kept (Nat.le_refl _) (fun q hq _ => ⟨rfl, (by have h9 : O < q := hq; omega : w.heap.size ≤ q)⟩), ((((ParPost.of_below H.out HB0.out).trans HI2.out.post).far hRw lP lg 0 _).far hRw lP lg 1 _).far hRw lP lg 2 _⟩

end Go.Proofs.YtgoaiokpnifhfaaDoor
