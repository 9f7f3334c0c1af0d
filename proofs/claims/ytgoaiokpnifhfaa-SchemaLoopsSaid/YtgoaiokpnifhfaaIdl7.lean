/-
  Layer 4: an enum.
-/
import Derived.Test.YtgoaiokpnifhfaaIdl6
import Derived.Deep.RegionLaw
import Derived.Deep.DeepCutAuto
import Derived.Deep.DrawnRows
namespace Go.Proofs.Ytgoaiokpnifhfaa
open Go.RowKit
set_option linter.unusedVariables false
set_option linter.unusedSimpArgs false
attribute [local go_sem ↓] Go.wp_at_zero Go.wp_at_succ

/-- where an enum's reading stands -/
structure ChoI (w0 : World) (P g cap : Nat) (l : List Tok) (B O : Nat) (nm : ByteArray) (ps : Nat) (v : Value) (σ : PS) (acc : List Tok) (w : World) : Prop where
  post : ParPost w0 P g cap l σ w
  box : w.heap[B]? = some (.cells #[.pointer (some ⟨P, 0, none⟩)] 59 (0, 0))
  out : w.heap[O]? = some (.cells #[.string nm, .int .i64 (ps : Int), v] 97 (0, 0))
  own : w.ownsRow (O + 1) 41 3 v acc.length (tokCells acc)
theorem ChoI.step {w0 : World} {P g cap : Nat} {l : List Tok} {B O : Nat} {nm : ByteArray} {ps : Nat} {v : Value} {σ τ : PS} {acc : List Tok} {w w' : World} (h : ChoI w0 P g cap l B O nm ps v σ acc w) (k : Places w0 P g B O) (h2 : ParPost w P g cap l τ w') : ChoI w0 P g cap l B O nm ps v τ acc w' := by
  have := k.p; have := k.b; have := k.o; have := k.bo
  have hne : ∀ q, v.ownBlock = some q → q ≠ P := fun q hq => by have := (h.own.lt q hq).1; omega
  exact ⟨h.post.trans h2, blk_grown h.box h2.grown (by omega), blk_grown h.out h2.grown (by omega), ownsRow_at h.own (fun q hq => h2.grown.block q (h.own.lt q hq).2 (fun e => hne q hq (Option.some.inj e)))⟩
theorem ChoI.new {w0 : World} {P g cap : Nat} {l : List Tok} {B O : Nat} {nm : ByteArray} {ps : Nat} {v : Value} {σ : PS} {acc : List Tok} {w w' : World} (h : ChoI w0 P g cap l B O nm ps v σ acc w) (hb : Below w.heap.size w w') : ChoI w0 P g cap l B O nm ps v σ acc w' :=
  ⟨h.post.below hb, blk_below h.box hb (blk_lt h.box), blk_below h.out hb (blk_lt h.out), ownsRow_at h.own (fun q hq => hb.block q (h.own.lt q hq).2)⟩
theorem tokCells_snoc (l : List Tok) (t : Tok) : tokCells l ++ [.int .i64 t.kind, .string t.text, .int .i64 (t.pos : Int)] = tokCells (l ++ [t]) := by simp [tokCells]
theorem ChoI.snoc {w0 : World} {P g cap : Nat} {l : List Tok} {B O : Nat} {nm : ByteArray} {ps : Nat} {v : Value} {σ : PS} {acc : List Tok} {w w2 : World} (h : ChoI w0 P g cap l B O nm ps v σ acc w) (k : Places w0 P g B O) (f : Tok) (a : Addr) (c n : Nat) (hn : n = acc.length + 1) (hg : w.grownBy w2 v.ownBlock)
    (ho : w2.ownsRow (O + 1) 41 3 (.slice (some a) n c) n (tokCells acc ++ [.int .i64 f.kind, .string f.text, .int .i64 (f.pos : Int)])) :
    ChoI w0 P g cap l B O nm ps (.slice (some a) n c) σ (acc ++ [f]) (w2.setCell ⟨O, 2, none⟩ (.slice (some a) n c)) := by
  have := k.p; have := k.g; have := k.b; have := k.o; have := k.bo
  have hne : ∀ q, v.ownBlock = some q → O + 1 ≤ q := fun q hq => (h.own.lt q hq).1
  have hB := blk_lt h.box
  have hO := blk_lt h.out
  have hb : w2.heap[B]? = _ := (hg.block B hB (fun e => by have := hne B e.symm; omega)).trans h.box
  have ho2 : w2.heap[O]? = _ := (hg.block O hO (fun e => by have := hne O e.symm; omega)).trans h.out
  refine ⟨(h.post.row hg (fun q hq => by have := hne q hq; omega) k.p k.g).far (by omega) k.p k.g 2 _, blk_set_ne hb _ (by simp; omega) _, by rw [blk_set ho2]; rfl, ?_⟩
  rw [← tokCells_snoc, List.length_append, List.length_cons, List.length_nil, ← hn]
  refine ownsRow_at ho (fun q hq => Below.heap_setCell _ _ _ _ ?_)
  have := (ho.lt q hq).1
  simp; omega
theorem news_tok (w : World) (a b c : Value) (T : TypeId) : ∀ j u, [a, b, c][j]? = some u → (w.alloc (.cells #[a, b, c] T)).cell? ((⟨w.heap.size, 0, none⟩ : Addr).add j) = some u := news_list w [a, b, c] T

theorem field_tok0 (w : World) (a b c : Value) : Sem.run Try.prog (Instr.field 41 (.agg #[a, b, c]) 0) w = .ok a w := by kernel_rfl
/-- a Go function's call, as one step of a region that draws -/
theorem step_call {Pr : Program} {ops : Array Oper} {o : Oper} {a : Act} {w : World} {K : Act → World → Prop} {Q : Exit → Act → World → Prop} {E : Prop} (hg : o.guard = none) (f : FuncId) (args : Array Value) (hrun : (execOp a.eval o).run Pr w = .ok (.enter f args) w)
    (v : Value) (S : World → Prop) (hC : Calls Pr f args w fun e w' => e = .returned v ∧ S w') (h : ∀ w', S w' → K (a.put o.dst v) w') : if Region.wanted o (yielded ops a.tmps) = true then Oper.wp Pr o a w K Q else E := by
  have hw : Region.wanted o (yielded ops a.tmps) = true := by simp [Region.wanted, hg]
  rw [if_pos hw]
  unfold Oper.wp
  rw [hrun]
  simp only [Oper.upon]
  exact hC.mono fun e w' hh => by obtain ⟨rfl, hs⟩ := hh; exact h w' hs

set_option maxHeartbeats 4000000 in
set_option maxRecDepth 100000 in
theorem item_calls (w0 : World) (P g cap : Nat) (l : List Tok) (B O : Nat) (nm : ByteArray) (ps : Nat) (v : Value) (σ : PS) (acc : List Tok) (w : World) (K : Places w0 P g B O) (hal : acc.length ≤ l.length) (h : ChoI w0 P g cap l B O nm ps v σ acc w) :
    Calls Try.prog 48 #[.pointer (some ⟨O, 0, none⟩), .pointer (some ⟨B, 0, none⟩)] w fun e w' => e = .returned (.tuple #[]) ∧ ∃ v', ChoI w0 P g cap l B O nm ps v' (itemS l σ) (acc ++ [nameV l false σ]) w' := by
  obtain ⟨av, cv, rfl⟩ := own_len h.own
  obtain ⟨it, hit, hzt0, hzt1, hzt2⟩ := info_parts info_token
  have HK := Lib.hid K
  have H := Lib.hid h
  have b0 : w.cell? ⟨B, 0, none⟩ = some (.pointer (some ⟨P, 0, none⟩)) := by rw [blk_cell h.box]; rfl
  have c0 : w.cell? ⟨O, 2, none⟩ = some (.slice av acc.length cv) := by rw [blk_cell h.out]; rfl
  have d0 : w.frozen? ⟨O, 2, none⟩ = false := blk_frozen h.out _
  have hsm := h.post.par.small
  have HPA := Lib.hid h.post.par
  obtain ⟨n, hn⟩ : ∃ n, nameV l false σ = n := ⟨_, rfl⟩
  obtain ⟨τ, hτ⟩ : ∃ τ, nameS l false σ = τ := ⟨_, rfl⟩
  have hnm := fun (W : World) (h : ParAt W P g cap l σ) => name_calls P g cap l σ false W h
  rw [hn, hτ] at hnm
  have hnm2 : ∀ (W : World), ParAt W P g cap l σ → Calls Try.prog 28 #[.pointer (some ⟨P, 0, none⟩), .bool false] W fun e w' => e = .returned (.agg #[.int .i64 n.kind, .string n.text, .int .i64 (n.pos : Int)]) ∧ ParPost W P g cap l τ w' := hnm
  have HNM := Lib.hid hnm2
  have HN := Lib.hid hn
  have HT := Lib.hid hτ
  have lO := blk_lt h.out
  have hOB : O ≠ B := by have := K.bo; omega
  clear h K hnm hnm2 hn hτ
  go_enter Try.func48, Try.ntmps48
  go_upto_region 0 with (fail)
  go_cut [2] (fun _ wc => ∃ v', ChoI w0 P g cap l B O nm ps v' τ (acc ++ [n]) wc)
  case first =>
    go_region_law (first
      | (refine step_append_lies _ (by rfl) _ _ 25 (by rfl) (O + 1) 41 it _ 3 32 Try.underlying25 hit hzt0 hzt1 hzt2 (by rfl) (by decide) _ _ _ (by rfl) (HCB.out.own.alloc _) ⟨wB.heap.size, 0, none⟩ 1 1 [.int .i64 n.kind, .string n.text, .int .i64 (n.pos : Int)] (by rfl) (by rfl) (news_tok _ _ _ _ _) (by simp [Value.oneCell']) (by decide) (by unfold maxLen; omega) (by omega) (by simp; have := blk_lt HCB.out.out; omega) _ rfl ?_; intro g2 cap2 w8 hown8 hgr8 hat8 hlt8; have hC8 := Lib.hid (show ChoI w0 P g cap l B O nm ps (.slice (some ⟨g2, 0, none⟩) (acc.length + 1) cap2) τ (acc ++ [n]) (w8.setCell ⟨O, 2, none⟩ (.slice (some ⟨g2, 0, none⟩) (acc.length + 1) cap2)) from (HCB.out.new (below1 _ _)).snoc HK.out n _ _ _ rfl hgr8 hown8); have hO8 : w8.heap[O]? = _ := (hgr8.block O (by simp; have := blk_lt HCB.out.out; omega) (fun e => by have := (HCB.out.own.lt _ e.symm).1; omega)).trans (blk_alloc HCB.out.out _); have c8 : w8.cell? ⟨O, 2, none⟩ = some (.slice av acc.length cv) := ((blk_cell hO8 2).trans rfl); have hB8 : w8.heap[B]? = _ := (hgr8.block B (by simp; have := blk_lt HCB.out.box; omega) (fun e => by have := (HCB.out.own.lt _ e.symm).1; have := HK.out.bo; omega)).trans (blk_alloc HCB.out.box _); have b8 : w8.cell? ⟨B, 0, none⟩ = some (.pointer (some ⟨P, 0, none⟩)) := ((blk_cell hB8 0).trans rfl); have d8 : w8.frozen? ⟨O, 2, none⟩ = false := blk_frozen hO8 _; clear hO8 hB8 hgr8 hown8 hat8)
      | (refine step_call (by rfl) 28 #[.pointer (some ⟨P, 0, none⟩), .bool false] (by go_simp) _ _ (HNM.out _ (HPA.out.below (Below.drew (Below.refl _ _)))) ?_; intro wB hpB; have HCB := Lib.hid ((H.out.new (Below.drew (Below.refl _ _))).step HK.out hpB); have c1 : wB.cell? ⟨O, 2, none⟩ = some (.slice av acc.length cv) := ((blk_cell HCB.out.out 2).trans rfl); have b1 : wB.cell? ⟨B, 0, none⟩ = some (.pointer (some ⟨P, 0, none⟩)) := ((blk_cell HCB.out.box 0).trans rfl); have d1 : wB.frozen? ⟨O, 2, none⟩ = false := blk_frozen HCB.out.out _; have lOB := blk_lt HCB.out.out; have lBB := blk_lt HCB.out.box; clear hpB))
    all_goals go_wp2_with fail
    all_goals go_meet
    all_goals exact ⟨_, hC8.out⟩
  obtain ⟨v2, hC2⟩ := hcut
  have b2 : wc.cell? ⟨B, 0, none⟩ = some (.pointer (some ⟨P, 0, none⟩)) := by rw [blk_cell hC2.box]; rfl
  have HC2 := Lib.hid hC2
  have lB2 := blk_lt hC2.box
  have hne : B ≠ P := HK.out.b
  have kf := fun (w : World) (a b c : Value) => field_tok0 w a b c
  have kf1 := fun (w : World) (a b c : Value) => field_tok1 w a b c
  have hi : itemS l σ = if isT l 4 cComma τ = true then goS τ else if (hereT l τ.a).kind = 4 ∧ eqS (hereT l τ.a).text cClose = true then τ else failS l 11 τ := by rw [itemS, HT.out]
  have HI := Lib.hid hi
  clear b0 c0 d0 hC2 hi lO
  go_wp2_with fail
  refine (sign_calls P g cap l τ cComma wc HC2.out.post.par).mono ?_
  rintro e w2 ⟨rfl, hp2⟩
  have hC3 := HC2.out.step HK.out hp2
  clear hp2
  cases ht : isT l 4 cComma τ with
  | true =>
    have HR := Lib.hid (show itemS l σ = goS τ by rw [HI.out, if_pos ht])
    rw [show takeS l 4 cComma τ = goS τ by rw [takeS, if_pos ht]] at hC3
    have HC3 := Lib.hid hC3
    clear hC3 ht b2
    go_wp2_with fail
    refine bodyPost_end (v := .tuple #[]) (by simp [results, Try.results48, go_sem]) rfl ?_
    exact ⟨rfl, _, by rw [HR.out, HN.out]; exact HC3.out⟩
  | false =>
    have HI2 := Lib.hid (show itemS l σ = if (hereT l τ.a).kind = 4 ∧ eqS (hereT l τ.a).text cClose = true then τ else failS l 11 τ by rw [HI.out, if_neg (by rw [ht]; simp)])
    rw [show takeS l 4 cComma τ = τ by rw [takeS, if_neg (by rw [ht]; simp)]] at hC3
    have b3 : w2.cell? ⟨B, 0, none⟩ = some (.pointer (some ⟨P, 0, none⟩)) := by rw [blk_cell hC3.box]; rfl
    have HC3 := Lib.hid hC3
    clear hC3 ht b2
    obtain ⟨t, htt⟩ : ∃ t, hereT l τ.a = t := ⟨_, rfl⟩
    have hh := fun (W : World) (h : ParAt W P g cap l τ) => here_calls P g cap l τ W h
    rw [htt] at hh HI2
    have hh2 : ∀ (W : World), ParAt W P g cap l τ → Calls Try.prog 24 #[.pointer (some ⟨P, 0, none⟩)] W fun e w' => e = .returned (.agg #[.int .i64 t.kind, .string t.text, .int .i64 (t.pos : Int)]) ∧ Below W.heap.size W w' := hh
    have HH := Lib.hid hh2
    clear hh hh2 htt
    go_wp2_with fail
    refine (HH.out _ HC3.out.post.par).mono ?_
    rintro e w4 ⟨rfl, hB4⟩
    have HC4 := Lib.hid (HC3.out.new hB4)
    have b4 : w4.cell? ⟨B, 0, none⟩ = some (.pointer (some ⟨P, 0, none⟩)) := by rw [blk_cell HC4.out.box]; rfl
    clear hB4 b3
    by_cases hk : t.kind = 4
    · have k1 : (t.kind != 4) = false := by rw [hk]; rfl
      have HKD := Lib.hid hk
      clear hk
      go_wp2_with fail
      refine (HH.out _ HC4.out.post.par).mono ?_
      rintro e w5 ⟨rfl, hB5⟩
      have HC5 := Lib.hid (HC4.out.new hB5)
      have b5 : w5.cell? ⟨B, 0, none⟩ = some (.pointer (some ⟨P, 0, none⟩)) := by rw [blk_cell HC5.out.box]; rfl
      clear hB5 b4
      have hcl : (!t.text.toList == [125]) = !eqS t.text cClose := by rw [eqS, Go.ByteArray.toList_eq]; rfl
      cases hq : eqS t.text cClose with
      | true =>
        rw [hq] at hcl
        have HR := Lib.hid (show itemS l σ = τ by rw [HI2.out, if_pos ⟨HKD.out, hq⟩])
        clear hq
        go_wp2_with fail
        refine bodyPost_end (v := .tuple #[]) (by simp [results, Try.results48, go_sem]) rfl ?_
        exact ⟨rfl, _, by rw [HR.out, HN.out]; exact HC5.out⟩
      | false =>
        rw [hq] at hcl
        have HR := Lib.hid (show itemS l σ = failS l 11 τ by rw [HI2.out, if_neg (fun h => by rw [hq] at h; cases h.2)])
        clear hq
        go_wp2_with fail
        refine (fail_calls P g cap l τ 11 (by decide) _ HC5.out.post.par).mono ?_
        rintro e w6 ⟨rfl, hp6⟩
        have HC6 := Lib.hid (HC5.out.step HK.out hp6)
        clear hp6 b5
        go_wp2_with fail
        refine bodyPost_end (v := .tuple #[]) (by simp [results, Try.results48, go_sem]) rfl ?_
        exact ⟨rfl, _, by rw [HR.out, HN.out]; exact HC6.out⟩
    · have k1 : (t.kind != 4) = true := by rw [bne_iff_ne]; exact hk
      have HR := Lib.hid (show itemS l σ = failS l 11 τ by rw [HI2.out, if_neg (fun h => hk h.1)])
      clear hk
      go_wp2_with fail
      refine (fail_calls P g cap l τ 11 (by decide) _ HC4.out.post.par).mono ?_
      rintro e w5 ⟨rfl, hp5⟩
      have HC5 := Lib.hid (HC4.out.step HK.out hp5)
      clear hp5 b4
      go_wp2_with fail
      refine bodyPost_end (v := .tuple #[]) (by simp [results, Try.results48, go_sem]) rfl ?_
      exact ⟨rfl, _, by rw [HR.out, HN.out]; exact HC5.out⟩

set_option maxRecDepth 100000 in
theorem enters_item : Enters 48 := fun _ _ => rfl

theorem cho_ser {w0 : World} {P g cap : Nat} {l : List Tok} {B O : Nat} (nm : ByteArray) (ps : Nat) (K : Places w0 P g B O) (hE : Ended l) :
    SerOf 48 #[.pointer (some ⟨O, 0, none⟩), .pointer (some ⟨B, 0, none⟩)] P g cap l (itemS l) (nameV l false) (fun σ acc w => ∃ v, ChoI w0 P g cap l B O nm ps v σ acc w) where
  ent := enters_item
  move := fun σ h => itemS_moves hE h
  par := fun σ acc w h => by obtain ⟨v, h⟩ := h; exact h.post.par
  step := fun σ acc w τ w' h h2 => by obtain ⟨v, h⟩ := h; exact ⟨v, h.step K h2⟩
  calls := fun σ acc w h0 hal h => by obtain ⟨v, h⟩ := h; exact item_calls w0 P g cap l B O nm ps v σ acc w K hal h

/-- what an enum's reading comes to -/
def ChoPost (w : World) (P g cap : Nat) (l : List Tok) (σ : PS) (e : Ending) (w' : World) : Prop :=
  ∃ v, e = .returned (.agg #[.string (choV l σ).name, .int .i64 ((choV l σ).pos : Int), v]) ∧ w'.ownsRow w.heap.size 41 3 v (choV l σ).names.length (tokCells (choV l σ).names) ∧ ParPost w P g cap l (choS l σ) w'

set_option maxHeartbeats 2000000 in
set_option maxRecDepth 100000 in
theorem choice_calls (P g cap : Nat) (l : List Tok) (σ : PS) (w : World) (h : ParAt w P g cap l σ) :
    Calls Try.prog 27 #[.pointer (some ⟨P, 0, none⟩)] w (ChoPost w P g cap l σ) := by
  have lP := blk_lt h.blk
  have lg := h.toks.lt h.ended.1
  have HE := Lib.hid h.ended
  have H := Lib.hid h
  have hn := fun (W : World) (h : ParAt W P g cap l σ) => name_calls P g cap l σ false W h
  have HN := Lib.hid hn
  clear h hn
  go_enter Try.func27, Try.ntmps27
  go_wp2_with fail
  obtain ⟨B, hB⟩ : ∃ B, B = w.heap.size := ⟨_, rfl⟩
  obtain ⟨W, hW⟩ : ∃ W, W = (w.alloc (Obj.cells #[Value.pointer (some ⟨P, 0, none⟩)] 59)).alloc (Obj.cells #[Value.string ⟨#[]⟩, Value.int .i64 0, Value.slice none 0 0] 97) := ⟨_, rfl⟩
  have hBW : Below w.heap.size w W := by rw [hW]; exact (below1 _ _).alloc (by simp) _
  have hbox : W.heap[B]? = some (Obj.cells #[Value.pointer (some ⟨P, 0, none⟩)] 59) := by rw [hW, hB]; exact blk_alloc (blk_new _ _) _
  have hres : W.heap[B + 1]? = some (Obj.cells #[Value.string ⟨#[]⟩, Value.int .i64 0, Value.slice none 0 0] 97) := by
    rw [hW, hB]
    have := blk_new (w.alloc (Obj.cells #[Value.pointer (some ⟨P, 0, none⟩)] 59)) (Obj.cells #[Value.string ⟨#[]⟩, Value.int .i64 0, Value.slice none 0 0] 97)
    rw [World.size_alloc] at this
    exact this
  rw [← hW, ← hB]
  refine (HN.out W (H.out.below hBW)).mono ?_
  rintro e w1 ⟨rfl, hp1⟩
  have hne : B ≠ P := by omega
  have hbox1 := blk_grown hbox hp1.grown hne
  have hres1 := blk_grown hres hp1.grown (by omega)
  have hPost1 := (ParPost.of_below H.out hBW).trans hp1
  obtain ⟨n, hnv⟩ : ∃ n, n = nameV l false σ := ⟨_, rfl⟩
  rw [← hnv]
  have hz1 := hPost1.grown.size
  obtain ⟨w0, hw0⟩ : ∃ w0, w0 = w1.alloc (Obj.cells #[Value.int .i64 n.kind, Value.string n.text, Value.int .i64 (n.pos : Int)] 41) := ⟨_, rfl⟩
  have b0 : w1.cell? ⟨B, 0, none⟩ = some (.pointer (some ⟨P, 0, none⟩)) := by rw [blk_cell hbox1]; rfl
  have lB := blk_lt hbox1
  have lR := blk_lt hres1
  have hb01 : Below w1.heap.size w1 w0 := by rw [hw0]; exact below1 _ _
  have hP0 := hPost1.below hb01
  have hbox0 := blk_below hbox1 hb01 lB
  have hres0 := blk_below hres1 hb01 lR
  have hsz0 : w0.heap.size = w1.heap.size + 1 := by rw [hw0]; simp
  obtain ⟨O, hO⟩ : ∃ O, O = w1.heap.size + 1 := ⟨_, rfl⟩
  have hK : Places w0 P g B O := ⟨by omega, by omega, hne, by omega, by omega⟩
  have hCho : ChoI w0 P g cap l B O n.text n.pos (.slice none 0 0) (nameS l false σ) [] (w0.alloc (Obj.cells #[Value.string n.text, Value.int .i64 (n.pos : Int), Value.slice none 0 0] 97)) := by
    refine ⟨ParPost.of_below hP0.par (below1 _ _), blk_alloc hbox0 _, ?_, World.ownsRow_nil _ _ _ _⟩
    rw [hO, ← hsz0]; exact blk_new _ _
  have HS := Lib.hid (series_calls _ _ P g cap l _ _ _ (cho_ser n.text n.pos hK HE.out) (nameS l false σ) _ ⟨_, hCho⟩)
  have HRV := Lib.hid (show choV l σ = ⟨n.text, n.pos, (serR l (itemS l) (nameV l false) (nameS l false σ)).1⟩ by rw [choV, ← hnv])
  have HRS : Hid (choS l σ = (serR l (itemS l) (nameV l false) (nameS l false σ)).2) := rfl
  have HP0 := Lib.hid hP0
  have HR0 := Lib.hid hres0
  have HW0 := Lib.hid hw0
  have hOw : w.heap.size ≤ O := by have := hBW.size; omega
  have hBw : w.heap.size ≤ B := by omega
  have hOB : B + 1 < O := by omega
  clear hbox hres hBW hW hbox1 hres1 hP0 hb01 hbox0 hres0 hCho hp1 hPost1 hK hnv hw0 hsz0 hB
  simp only [tokA]
  go_wp2_with fail
  rw [← HW0.out, ← hO]
  clear b0 hO
  refine HS.out.mono ?_
  rintro e w2 ⟨rfl, v, hR⟩
  obtain ⟨fs, hfs⟩ : ∃ fs, fs = (serR l (itemS l) (nameV l false) (nameS l false σ)).1 := ⟨_, rfl⟩
  obtain ⟨τ, hτ⟩ : ∃ τ, τ = (serR l (itemS l) (nameV l false) (nameS l false σ)).2 := ⟨_, rfl⟩
  rw [← hfs] at HRV hR
  rw [← hτ] at HRS hR
  have hO2 := hR.out
  have o0 : w2.cell? ⟨O, 0, none⟩ = some (.string n.text) := by rw [blk_cell hO2]; rfl
  have o1 : w2.cell? ⟨O, 1, none⟩ = some (.int .i64 (n.pos : Int)) := by rw [blk_cell hO2]; rfl
  have o2 : w2.cell? ⟨O, 2, none⟩ = some v := by rw [blk_cell hO2]; rfl
  have hR2 := blk_grown HR0.out hR.post.grown (by omega)
  have r0 : w2.cell? ⟨B + 1, 0, none⟩ = some (.string ⟨#[]⟩) := by rw [blk_cell hR2]; rfl
  have r1 : w2.cell? ⟨B + 1, 1, none⟩ = some (.int .i64 0) := by rw [blk_cell hR2]; rfl
  have r2 : w2.cell? ⟨B + 1, 2, none⟩ = some (.slice none 0 0) := by rw [blk_cell hR2]; rfl
  have z0 : w2.frozen? ⟨B + 1, 0, none⟩ = false := blk_frozen hR2 _
  have z1 : w2.frozen? ⟨B + 1, 1, none⟩ = false := blk_frozen hR2 _
  have z2 : w2.frozen? ⟨B + 1, 2, none⟩ = false := blk_frozen hR2 _
  have hne2 : B + 1 ≠ O := by omega
  have HRR := Lib.hid hR
  obtain ⟨av, cv, rfl⟩ := own_len hR.own
  clear hR hO2 hR2 hfs hτ HS
  go_wp2_with fail
  refine bodyPost_ret (v := .agg #[.string n.text, .int .i64 (n.pos : Int), .slice av fs.length cv]) (by simp [results, Try.results27, go_sem, *]) rfl ?_
  unfold ChoPost
  rw [HRV.out, HRS.out]
  refine ⟨_, rfl, ?_, ?_⟩
  · have ho := HRR.out.own
    refine ownsRow_base (ownsRow_at ho (fun q hq => ?_)) (base' := w.heap.size) (by omega)
    have := (ho.lt q hq).1
    rw [Below.heap_setCell _ _ _ _ (by simp; omega), Below.heap_setCell _ _ _ _ (by simp; omega), Below.heap_setCell _ _ _ _ (by simp; omega)]
  · exact (((HP0.out.trans HRR.out.post).far (by omega) lP lg 0 _).far (by omega) lP lg 1 _).far (by omega) lP lg 2 _


end Go.Proofs.Ytgoaiokpnifhfaa
