/-
  Parts: RefP5, RefP6, RefP7.
-/
import Derived.Test.YtgoaiokpnifhfaaDoorPkRefP1
import Derived.Test.YtgoaiokpnifhfaaDoorPkIdl7
import Derived.Test.YtgoaiokpnifhfaaDoorPkIdl5

/-
  The document's parser: an enum.
-/
namespace Go.Proofs.YtgoaiokpnifhfaaDoor
open Go.RowKit
set_option linter.unusedVariables false
set_option linter.unusedSimpArgs false

theorem RPost.row {w0 w w2 : World} {P g cap : Nat} {l : List Tok} {τ : PS} {R : Option Nat} (h : RPost w0 P g cap l τ w) (hg : w.grownBy w2 R) (hR : ∀ k, R = some k → w0.heap.size ≤ k) (hP : P < w0.heap.size) (hgl : g < w0.heap.size) : RPost w0 P g cap l τ w2 := by
  have h1 : w0.grownBy w2 (some P) := ⟨hg.os.trans h.grown.os, hg.tape.trans h.grown.tape, hg.output.trans h.grown.output, Nat.le_trans h.grown.size hg.size, fun k hk hn => by
    rw [hg.block k (Nat.lt_of_lt_of_le hk h.grown.size) (fun e => by have := hR k e.symm; omega)]
    exact h.grown.block k hk hn⟩
  have hb : ∀ k, k < w0.heap.size → w2.heap[k]? = w.heap[k]? := fun k hk => hg.block k (Nat.lt_of_lt_of_le hk h.grown.size) (fun e => by have := hR k e.symm; omega)
  exact ⟨h1, { h.par with blk := (hb P hP).trans h.par.blk, toks := h.par.toks.kept (hb g hgl) }⟩
theorem rparLeft_of {w : World} {P g cap : Nat} {l : List Tok} {σ : PS} (h : RAt w P g cap l σ) : parLeft w P l = left l σ := by
  have h1 : w.cell? ⟨P, 1, none⟩ = some (.int .i64 (σ.a : Int)) := by rw [blk_cell h.blk]; rfl
  have h2 : w.cell? ⟨P, 2, none⟩ = some (.int .i64 σ.c) := by rw [blk_cell h.blk]; rfl
  simp [parLeft, left, h1, h2, intOf]

/-- where an enum's reading stands: S the result's block, O the enum's own -/
structure RcI (w0 : World) (P g cap : Nat) (l : List Tok) (S O : Nat) (nm : ByteArray) (ps : Nat) (v : Value) (σ : PS) (acc : List Tok) (w : World) : Prop where
  post : RPost w0 P g cap l σ w
  res : w.heap[S]? = some (.cells #[.string ⟨#[]⟩, .int .i64 0, .slice none 0 0] 190 (0, 0))
  out : w.heap[O]? = some (.cells #[.string nm, .int .i64 (ps : Int), v] 190 (0, 0))
  own : w.ownsRow (O + 1) 102 3 v acc.length (tokCells acc)
structure RPl (w0 : World) (P g S O : Nat) : Prop where
  p : P < w0.heap.size
  g : g < w0.heap.size
  s : w0.heap.size ≤ S
  o : S < O
theorem RcI.step {w0 : World} {P g cap : Nat} {l : List Tok} {S O : Nat} {nm : ByteArray} {ps : Nat} {v : Value} {σ τ : PS} {acc : List Tok} {w w' : World} (h : RcI w0 P g cap l S O nm ps v σ acc w) (k : RPl w0 P g S O) (h2 : RPost w P g cap l τ w') : RcI w0 P g cap l S O nm ps v τ acc w' := by
  have := k.p; have := k.s; have := k.o
  have hne : ∀ q, v.ownBlock = some q → q ≠ P := fun q hq => by have := (h.own.lt q hq).1; omega
  exact ⟨h.post.trans h2, blk_grown h.res h2.grown (by omega), blk_grown h.out h2.grown (by omega), ownsRow_at h.own (fun q hq => h2.grown.block q (h.own.lt q hq).2 (fun e => hne q hq (Option.some.inj e)))⟩
theorem RcI.new {w0 : World} {P g cap : Nat} {l : List Tok} {S O : Nat} {nm : ByteArray} {ps : Nat} {v : Value} {σ : PS} {acc : List Tok} {w w' : World} (h : RcI w0 P g cap l S O nm ps v σ acc w) (hb : Below w.heap.size w w') : RcI w0 P g cap l S O nm ps v σ acc w' :=
  ⟨h.post.below hb, blk_below h.res hb (blk_lt h.res), blk_below h.out hb (blk_lt h.out), ownsRow_at h.own (fun q hq => hb.block q (h.own.lt q hq).2)⟩
theorem RcI.snoc {w0 : World} {P g cap : Nat} {l : List Tok} {S O : Nat} {nm : ByteArray} {ps : Nat} {v : Value} {σ : PS} {acc : List Tok} {w w2 : World} (h : RcI w0 P g cap l S O nm ps v σ acc w) (k : RPl w0 P g S O) (f : Tok) (a : Addr) (c n : Nat) (hn : n = acc.length + 1) (hg : w.grownBy w2 v.ownBlock)
    (ho : w2.ownsRow (O + 1) 102 3 (.slice (some a) n c) n (tokCells acc ++ [.int .i64 f.kind, .string f.text, .int .i64 (f.pos : Int)])) :
    RcI w0 P g cap l S O nm ps (.slice (some a) n c) σ (acc ++ [f]) (w2.setCell ⟨O, 2, none⟩ (.slice (some a) n c)) := by
  have := k.p; have := k.g; have := k.s; have := k.o
  have hne : ∀ q, v.ownBlock = some q → O + 1 ≤ q := fun q hq => (h.own.lt q hq).1
  have hS := blk_lt h.res
  have hO := blk_lt h.out
  have hb : w2.heap[S]? = _ := (hg.block S hS (fun e => by have := hne S e.symm; omega)).trans h.res
  have ho2 : w2.heap[O]? = _ := (hg.block O hO (fun e => by have := hne O e.symm; omega)).trans h.out
  refine ⟨(h.post.row hg (fun q hq => by have := hne q hq; omega) k.p k.g).far (by omega) k.p k.g 2 _, blk_set_ne hb _ (by simp; omega) _, by rw [blk_set ho2]; rfl, ?_⟩
  rw [← tokCells_snoc, List.length_append, List.length_cons, List.length_nil, ← hn]
  refine ownsRow_at ho (fun q hq => Below.heap_setCell _ _ _ _ ?_)
  have := (ho.lt q hq).1
  simp; omega
/-- what an enum's reading comes to -/
def RcPost (w : World) (P g cap : Nat) (l : List Tok) (σ : PS) (e : Ending) (w' : World) : Prop :=
  ∃ v, e = .returned (.agg #[.string (choV l σ).name, .int .i64 ((choV l σ).pos : Int), v]) ∧ w'.ownsRow w.heap.size 102 3 v (choV l σ).names.length (tokCells (choV l σ).names) ∧ RPost w P g cap l (choS l σ) w'

set_option maxHeartbeats 2000000 in
set_option maxRecDepth 100000 in
theorem rchoice_calls (P g cap : Nat) (l : List Tok) (σ : PS) (w : World) (h : RAt w P g cap l σ) :
    Calls Tryd.prog 108 #[.pointer (some ⟨P, 0, none⟩)] w (RcPost w P g cap l σ) := by
  obtain ⟨it, hit, hzt0, hzt1, hzt2⟩ := info_parts info_token
  have lP := blk_lt h.blk
  have lg := h.toks.lt h.ended.1
  have HE := Lib.hid h.ended
  have H := Lib.hid h
  have hn := fun (W : World) (h : RAt W P g cap l σ) => rname_calls P g cap l σ false W h
  have HN := Lib.hid hn
  clear h hn
  go_enter Tryd.func108, Tryd.ntmps108
  go_wp2_with fail
  refine (HN.out _ (H.out.below (below1 _ _))).mono ?_
  rintro e w1 ⟨rfl, hp1⟩
  have hS1 := blk_grown (blk_new w _) hp1.grown (by omega)
  have hPost1 := (RPost.of_below H.out (below1 _ _)).trans hp1
  have hz1 := hp1.grown.size
  simp only [World.size_alloc] at hz1
  obtain ⟨n, hnv⟩ : ∃ n, n = nameV l false σ := ⟨_, rfl⟩
  rw [← hnv]
  have HRV := Lib.hid (show choV l σ = ⟨n.text, n.pos, (serR l (itemS l) (nameV l false) (nameS l false σ)).1⟩ by rw [choV, ← hnv])
  have HRS : Hid (choS l σ = (serR l (itemS l) (nameV l false) (nameS l false σ)).2) := rfl
  have HS1 := Lib.hid hS1
  have HP1 := Lib.hid hPost1
  clear hS1 hPost1 hp1 hnv
  simp only [tokA]
  go_wp2_with fail
  obtain ⟨S, hS⟩ : ∃ S, S = w.heap.size := ⟨_, rfl⟩
  obtain ⟨O, hO⟩ : ∃ O, O = w1.heap.size + 1 := ⟨_, rfl⟩
  have hK : RPl w P g S O := ⟨lP, lg, by omega, by omega⟩
  obtain ⟨σ1, hσ1⟩ : ∃ σ1, σ1 = nameS l false σ := ⟨_, rfl⟩
  have hI0 : RcI w P g cap l S O n.text n.pos (.slice none 0 0) σ1 [] ((w1.alloc (Obj.cells #[Value.int .i64 n.kind, Value.string n.text, Value.int .i64 (n.pos : Int)] 102 (0, 0))).alloc (Obj.cells #[Value.string n.text, Value.int .i64 (n.pos : Int), Value.slice none 0 0] 190 (0, 0))) := by
    refine ⟨by rw [hσ1]; exact (HP1.out.below (below1 _ _)).below (below1 _ _), by rw [hS]; exact blk_alloc (blk_alloc HS1.out _) _, ?_, World.ownsRow_nil _ _ _ _⟩
    have := blk_new (w1.alloc (Obj.cells #[Value.int .i64 n.kind, Value.string n.text, Value.int .i64 (n.pos : Int)] 102 (0, 0))) (Obj.cells #[Value.string n.text, Value.int .i64 (n.pos : Int), Value.slice none 0 0] 190 (0, 0))
    rw [World.size_alloc] at this
    rw [hO]; exact this
  rw [← hσ1] at HRV HRS
  have hz : serR l (itemS l) (nameV l false) σ1 = serLoop l (itemS l) (nameV l false) (l.length + 1) (wantS l cOpen σ1) [] := rfl
  have HZ := Lib.hid hz
  refine (rwant_calls P g cap l σ1 cOpen _ hI0.post.par).mono ?_
  rintro e w2 ⟨rfl, hp2⟩
  have HI2 := Lib.hid (hI0.step hK hp2)
  have HK := Lib.hid hK
  rw [← hS, ← hO]
  have hSO : S < O := hK.o
  have hPS : P < S := by have := hK.s; omega
  clear hp2 hI0 hK hS hO hσ1 hz hz1
  go_wp2_with fail
  go_loopw [5] (fun _ wr => ∃ (f : Nat) (τ : PS) (acc : List Tok) (v : Value), left l τ ≤ f ∧ acc.length + left l τ ≤ l.length + 1 ∧ Hid (serR l (itemS l) (nameV l false) σ1 = serLoop l (itemS l) (nameV l false) f τ acc) ∧ Hid (RcI w P g cap l S O n.text n.pos v τ acc wr)) (fun _ wr => parLeft wr P l)
  case atStart => exact ⟨l.length + 1, _, [], _, left_le, by have := @left_le l (wantS l cOpen σ1); simp; omega, HZ.out, HI2.out⟩
  case round =>
    obtain ⟨f, τ, acc, v, hf, hal, hs, hI⟩ := hrel
    obtain ⟨av, cv, rfl⟩ := own_len hI.out.own
    have hpar := hI.out.post.par
    have hbP := hpar.blk
    have p1 : wr.cell? ⟨P, 1, none⟩ = some (.int .i64 (τ.a : Int)) := by rw [blk_cell hbP]; rfl
    have p2 : wr.cell? ⟨P, 2, none⟩ = some (.int .i64 τ.c) := by rw [blk_cell hbP]; rfl
    have lPr := blk_lt hbP
    have HPL := Lib.hid (rparLeft_of hpar)
    by_cases h0 : τ.c = 0
    · have b0 : (τ.c == 0) = true := by rw [beq_iff_eq]; exact h0
      have hsg := ris_calls P g cap l τ 4 cClose wr hpar
      obtain ⟨f', rfl, hst⟩ := serLoop_step (one := itemS l) (val := nameV l false) acc hf hpar.fine h0
      have HML := Lib.hid ((itemS_moves HE.out hpar.fine).left h0 hpar.fine)
      have hff : left l (itemS l τ) ≤ f' := by have := HML.out; omega
      have hall : (acc ++ [nameV l false τ]).length + left l (itemS l τ) ≤ l.length + 1 := by have := HML.out; rw [List.length_append]; simp only [List.length_cons, List.length_nil]; omega
      have hacl : acc.length ≤ 100000 := by have := HML.out; have := hpar.small; omega
      have HST := Lib.hid (hs.out.trans hst)
      have ha1 : (τ.a : Int) ≤ 100000 := by have := hpar.fit; have := hpar.small; omega
      cases ht : isT l 4 cClose τ with
      | true =>
        rw [ht] at hsg
        have HR := Lib.hid (show serR l (itemS l) (nameV l false) σ1 = (acc, goS τ) by rw [HST.out, if_pos ht])
        have HFI := Lib.hid (fit_go HE.out hpar.fit (by rw [(isT_kind ht).2.1]; decide))
        clear h0 ht hst hpar hbP hf hs hff hall p1
        go_wp2_with fail
        refine hsg.mono ?_
        rintro e w3 ⟨rfl, hB3⟩
        have hI3 := hI.out.new hB3
        have hbP := hI3.post.par.blk
        have p1' : w3.cell? ⟨P, 1, none⟩ = some (.int .i64 (τ.a : Int)) := by rw [blk_cell hbP]; rfl
        have p2' : w3.cell? ⟨P, 2, none⟩ = some (.int .i64 τ.c) := by rw [blk_cell hbP]; rfl
        have y1' : w3.frozen? ⟨P, 1, none⟩ = false := blk_frozen hbP _
        have lP3 := blk_lt hbP
        have HI4 := Lib.hid (hI3.step HK.out (rpar_go hI3.post.par HFI.out))
        clear hB3 hsg hI3 hbP p2
        have o0 : _ = some (Value.string n.text) := blk_cell HI4.out.out 0
        have o1 : _ = some (Value.int .i64 (n.pos : Int)) := blk_cell HI4.out.out 1
        have o2 : _ = some (Value.slice av acc.length cv) := blk_cell HI4.out.out 2
        have r0 : _ = some (Value.string ⟨#[]⟩) := blk_cell HI4.out.res 0
        have r1 : _ = some (Value.int .i64 0) := blk_cell HI4.out.res 1
        have r2 : _ = some (Value.slice none 0 0) := blk_cell HI4.out.res 2
        have z0 : _ = false := blk_frozen HI4.out.res 0
        have z1 : _ = false := blk_frozen HI4.out.res 1
        have z2 : _ = false := blk_frozen HI4.out.res 2
        have lO := blk_lt HI4.out.out
        have lS := blk_lt HI4.out.res
        have hne2 : S ≠ O := by omega
        go_wp2_with fail
        refine bodyPost_ret (v := .agg #[.string n.text, .int .i64 (n.pos : Int), .slice av acc.length cv]) (by simp [results, Tryd.results108, go_sem, *]) rfl ?_
        unfold RcPost
        rw [HRV.out, HRS.out, HR.out]
        have hs0 := HK.out.s
        have hp0 := HK.out.p
        refine ⟨_, rfl, ?_, ?_⟩
        · have ho := HI4.out.own
          refine ownsRow_base (ownsRow_at ho (fun q hq => ?_)) (base' := w.heap.size) (by omega)
          have := (ho.lt q hq).1
          rw [Below.heap_setCell _ _ _ _ (by simp; omega), Below.heap_setCell _ _ _ _ (by simp; omega), Below.heap_setCell _ _ _ _ (by simp; omega)]
        · exact ((HI4.out.post.far (by omega) lP lg 0 _).far (by omega) lP lg 1 _).far (by omega) lP lg 2 _
      | false =>
        rw [ht] at hsg
        have HR := Lib.hid (show serR l (itemS l) (nameV l false) σ1 = serLoop l (itemS l) (nameV l false) f' (itemS l τ) (acc ++ [nameV l false τ]) by rw [HST.out, if_neg (by rw [ht]; simp)])
        clear h0 ht hst hpar hbP hf hs p1
        go_wp2_with fail
        refine hsg.mono ?_
        rintro e w3 ⟨rfl, hB3⟩
        have HI3 := Lib.hid (hI.out.new hB3)
        clear hB3 hsg p2 b0
        go_wp2_with fail
        refine (rname_calls P g cap l τ false _ HI3.out.post.par).mono ?_
        rintro e w4 ⟨rfl, hp4⟩
        have hI4 := HI3.out.step HK.out hp4
        obtain ⟨m, hm⟩ : ∃ m, m = nameV l false τ := ⟨_, rfl⟩
        obtain ⟨υ, hυ⟩ : ∃ υ, υ = nameS l false τ := ⟨_, rfl⟩
        rw [← hυ] at hI4
        rw [← hm]
        have hit1 : itemS l τ = if isT l 4 cComma υ = true then goS υ else if (hereT l υ.a).kind = 4 ∧ eqS (hereT l υ.a).text cClose = true then υ else failS l 11 υ := by rw [itemS, ← hυ]
        rw [← hm] at HR hall
        have HIT := Lib.hid hit1
        have c2 : w4.cell? ⟨O, 2, none⟩ = some (Value.slice av acc.length cv) := blk_cell hI4.out 2
        have c2a : _ = some (Value.slice av acc.length cv) := blk_cell (blk_alloc hI4.out (Obj.cells #[Value.int .i64 m.kind, Value.string m.text, Value.int .i64 (m.pos : Int)] 102 (0, 0))) 2
        have lO4 := blk_lt hI4.out
        have hown := hI4.own
        have HI4 := Lib.hid hI4
        have HON := Lib.hid hI4.own.lt
        clear hp4 hI4 hm hυ hit1
        simp only [tokA]
        go_wp2_with (at_builtin; refine wpList_append_lies _ rfl _ _ 24 rfl (O + 1) 102 it _ 3 32 Tryd.underlying24 hit hzt0 hzt1 hzt2 rfl (by decide) _ _ _ rfl ((hown.alloc _).alloc _) ⟨w4.heap.size + 1, 0, none⟩ 1 1 [.int .i64 m.kind, .string m.text, .int .i64 (m.pos : Int)] rfl rfl (news_three _ _ _ _ _ _) (by simp [Value.oneCell']) (by decide) (by unfold maxLen; omega) (by omega) (by simp; omega) _ rfl ?_)
        intro g2 cap2 w5 hown5 hgr5 hat5 hlt5
        have hO5 : w5.heap[O]? = _ := (hgr5.block O (by simp; omega) (fun e => by have := (HON.out O e.symm).1; omega)).trans (blk_alloc (blk_alloc HI4.out.out _) _)
        have c3 : w5.cell? ⟨O, 2, none⟩ = some (Value.slice av acc.length cv) := by rw [blk_cell hO5]; rfl
        have d3 : w5.frozen? ⟨O, 2, none⟩ = false := blk_frozen hO5 _
        have lO5 : O < w5.heap.size := blk_lt hO5
        have hI6 := ((HI4.out.new (below1 _ _)).new (below1 _ _)).snoc HK.out m _ _ _ rfl hgr5 hown5
        have HI6 := Lib.hid hI6
        clear hown5 hgr5 hat5 c2 c2a hO5 hown hI6
        go_wp2_with fail
        refine (ris_calls P g cap l υ 4 cComma _ HI6.out.post.par).mono ?_
        rintro e w6 ⟨rfl, hB6⟩
        have hI7 := HI6.out.new hB6
        cases htc : isT l 4 cComma υ with
        | true =>
          have HRS2 := Lib.hid (show itemS l τ = goS υ by rw [HIT.out, if_pos htc])
          have HFI := Lib.hid (fit_go HE.out hI7.post.par.fit (by rw [(isT_kind htc).2.1]; decide))
          have hbP := hI7.post.par.blk
          have p1' : w6.cell? ⟨P, 1, none⟩ = some (.int .i64 (υ.a : Int)) := by rw [blk_cell hbP]; rfl
          have y1' : w6.frozen? ⟨P, 1, none⟩ = false := blk_frozen hbP _
          have lP6 := blk_lt hbP
          have ha2 : (υ.a : Int) ≤ 100000 := by have := hI7.post.par.fit; have := hI7.post.par.small; omega
          have HI8 := Lib.hid (hI7.step HK.out (rpar_go hI7.post.par HFI.out))
          clear hB6 hI7 htc hbP c3 d3
          go_wp2_with fail
          go_roundw
          case rel => exact ⟨f', _, _, _, hff, hall, HR.out, by rw [HRS2.out]; exact HI8.out⟩
          case measure => rw [← HRS2.out] at HI8; rw [rparLeft_of HI8.out.post.par, HPL.out]; exact HML.out
        | false =>
          have HI2b := Lib.hid (show itemS l τ = if (hereT l υ.a).kind = 4 ∧ eqS (hereT l υ.a).text cClose = true then υ else failS l 11 υ by rw [HIT.out, if_neg (by rw [htc]; simp)])
          have HI7 := Lib.hid hI7
          clear hB6 hI7 htc c3 d3
          go_wp2_with fail
          refine (ris_calls P g cap l υ 4 cClose _ HI7.out.post.par).mono ?_
          rintro e w7 ⟨rfl, hB7⟩
          have HI8 := Lib.hid (HI7.out.new hB7)
          clear hB7
          cases htd : isT l 4 cClose υ with
          | true =>
            have HRS2 := Lib.hid (show itemS l τ = υ by rw [HI2b.out, if_pos ⟨(isT_kind htd).2.1, (eqS_iff _ _).2 (isT_kind htd).2.2⟩])
            clear htd
            go_wp2_with fail
            go_roundw
            case rel => exact ⟨f', _, _, _, hff, hall, HR.out, by rw [HRS2.out]; exact HI8.out⟩
            case measure => rw [← HRS2.out] at HI8; rw [rparLeft_of HI8.out.post.par, HPL.out]; exact HML.out
          | false =>
            have hfs : itemS l τ = failS l 11 υ := by
              rw [HI2b.out]
              split
              · rename_i hh
                have : υ.c ≠ 0 := by
                  intro hc
                  rw [isT, decide_eq_true hc, decide_eq_true hh.1, hh.2] at htd
                  simp at htd
                rw [failS_stuck this]
              · rfl
            have HRS2 := Lib.hid hfs
            clear htd hfs
            go_wp2_with fail
            refine (rbad_calls P g cap l υ 11 _ HI8.out.post.par).mono ?_
            rintro e w8 ⟨rfl, hp8⟩
            have HI9 := Lib.hid (HI8.out.step HK.out hp8)
            clear hp8
            go_wp2_with fail
            go_roundw
            case rel => exact ⟨f', _, _, _, hff, hall, HR.out, by rw [HRS2.out]; exact HI9.out⟩
            case measure => rw [← HRS2.out] at HI9; rw [rparLeft_of HI9.out.post.par, HPL.out]; exact HML.out
    · have b0 : (τ.c == 0) = false := by rw [beq_eq_false_iff_ne]; exact h0
      have HR := Lib.hid (show serR l (itemS l) (nameV l false) σ1 = (acc, τ) by rw [hs.out, serLoop_stuck _ _ h0])
      have HI4 := hI
      clear h0 hpar hbP hf hs p1 hal
      have o0 : _ = some (Value.string n.text) := blk_cell HI4.out.out 0
      have o1 : _ = some (Value.int .i64 (n.pos : Int)) := blk_cell HI4.out.out 1
      have o2 : _ = some (Value.slice av acc.length cv) := blk_cell HI4.out.out 2
      have r0 : _ = some (Value.string ⟨#[]⟩) := blk_cell HI4.out.res 0
      have r1 : _ = some (Value.int .i64 0) := blk_cell HI4.out.res 1
      have r2 : _ = some (Value.slice none 0 0) := blk_cell HI4.out.res 2
      have z0 : _ = false := blk_frozen HI4.out.res 0
      have z1 : _ = false := blk_frozen HI4.out.res 1
      have z2 : _ = false := blk_frozen HI4.out.res 2
      have lO := blk_lt HI4.out.out
      have lS := blk_lt HI4.out.res
      have hne2 : S ≠ O := by omega
      go_wp2_with fail
      refine bodyPost_ret (v := .agg #[.string n.text, .int .i64 (n.pos : Int), .slice av acc.length cv]) (by simp [results, Tryd.results108, go_sem, *]) rfl ?_
      unfold RcPost
      rw [HRV.out, HRS.out, HR.out]
      have hs0 := HK.out.s
      have hp0 := HK.out.p
      refine ⟨_, rfl, ?_, ?_⟩
      · have ho := HI4.out.own
        refine ownsRow_base (ownsRow_at ho (fun q hq => ?_)) (base' := w.heap.size) (by omega)
        have := (ho.lt q hq).1
        rw [Below.heap_setCell _ _ _ _ (by simp; omega), Below.heap_setCell _ _ _ _ (by simp; omega), Below.heap_setCell _ _ _ _ (by simp; omega)]
      · exact ((HI4.out.post.far (by omega) lP lg 0 _).far (by omega) lP lg 1 _).far (by omega) lP lg 2 _

end Go.Proofs.YtgoaiokpnifhfaaDoor

/-
  The document's parser: a struct.
-/
namespace Go.Proofs.YtgoaiokpnifhfaaDoor
open Go.RowKit
set_option linter.unusedVariables false
set_option linter.unusedSimpArgs false

/-- the same but for the place behind a fault -/
def Eqv (σ τ : PS) : Prop := σ = τ ∨ (σ.c ≠ 0 ∧ σ.c = τ.c ∧ σ.p = τ.p)
theorem Eqv.c {σ τ : PS} (h : Eqv σ τ) : σ.c = τ.c := by rcases h with rfl | h; rfl; exact h.2.1
theorem Eqv.p {σ τ : PS} (h : Eqv σ τ) : σ.p = τ.p := by rcases h with rfl | h; rfl; exact h.2.2
theorem Eqv.eq {σ τ : PS} (h : Eqv σ τ) (h0 : σ.c = 0) : σ = τ := by rcases h with h | h; exact h; exact absurd h0 h.1
theorem wantS_stuck {l : List Tok} {s : ByteArray} {σ : PS} (h : σ.c ≠ 0) : wantS l s σ = σ := by rw [wantS, if_neg (by rw [isT_fault h]; simp), failS_stuck h]
/-- what the document's reading of a field comes to, from behind its type -/
def rdefS (l : List Tok) (τ : PS) : PS := if (hereT l (goS τ).a).kind = 1 ∨ (hereT l (goS τ).a).kind = 2 then goS (goS τ) else failS l 11 (goS τ)
def rfieldS (l : List Tok) (σ : PS) : PS := wantS l cSemi (if hasDef l σ = true then rdefS l (fieldE l σ) else fieldE l σ)
theorem rfield_eqv (l : List Tok) (σ : PS) : Eqv (rfieldS l σ) (fieldS l σ) := by
  unfold rfieldS fieldS
  by_cases h : hasDef l σ = true
  · rw [if_pos h, if_pos h]
    unfold rdefS defS
    split
    · exact .inl rfl
    · have hc : (failS l 11 (goS (fieldE l σ))).c ≠ 0 := failS_c (by decide) _
      have hc2 : (goS (failS l 11 (goS (fieldE l σ)))).c ≠ 0 := hc
      rw [wantS_stuck hc, wantS_stuck hc2]
      exact .inr ⟨hc, rfl, rfl⟩
  · rw [if_neg h, if_neg h]; exact .inl rfl

/-- where a struct's reading stands: S the result's block, O the struct's own -/
structure RrI (w0 : World) (P g cap : Nat) (l : List Tok) (S O : Nat) (nm : ByteArray) (ps : Nat) (v : Value) (σ : PS) (acc : List RField) (w : World) : Prop where
  post : RPost w0 P g cap l σ w
  res : w.heap[S]? = some (.cells #[.string ⟨#[]⟩, .int .i64 0, .slice none 0 0] 121 (0, 0))
  out : w.heap[O]? = some (.cells #[.string nm, .int .i64 (ps : Int), v] 121 (0, 0))
  own : w.ownsRow (O + 1) 125 8 v acc.length (fldCells acc)
theorem RrI.step {w0 : World} {P g cap : Nat} {l : List Tok} {S O : Nat} {nm : ByteArray} {ps : Nat} {v : Value} {σ τ : PS} {acc : List RField} {w w' : World} (h : RrI w0 P g cap l S O nm ps v σ acc w) (k : RPl w0 P g S O) (h2 : RPost w P g cap l τ w') : RrI w0 P g cap l S O nm ps v τ acc w' := by
  have := k.p; have := k.s; have := k.o
  have hne : ∀ q, v.ownBlock = some q → q ≠ P := fun q hq => by have := (h.own.lt q hq).1; omega
  exact ⟨h.post.trans h2, blk_grown h.res h2.grown (by omega), blk_grown h.out h2.grown (by omega), ownsRow_at h.own (fun q hq => h2.grown.block q (h.own.lt q hq).2 (fun e => hne q hq (Option.some.inj e)))⟩
theorem RrI.new {w0 : World} {P g cap : Nat} {l : List Tok} {S O : Nat} {nm : ByteArray} {ps : Nat} {v : Value} {σ : PS} {acc : List RField} {w w' : World} (h : RrI w0 P g cap l S O nm ps v σ acc w) (hb : Below w.heap.size w w') : RrI w0 P g cap l S O nm ps v σ acc w' :=
  ⟨h.post.below hb, blk_below h.res hb (blk_lt h.res), blk_below h.out hb (blk_lt h.out), ownsRow_at h.own (fun q hq => hb.block q (h.own.lt q hq).2)⟩
theorem RrI.snoc {w0 : World} {P g cap : Nat} {l : List Tok} {S O : Nat} {nm : ByteArray} {ps : Nat} {v : Value} {σ : PS} {acc : List RField} {w w2 : World} (h : RrI w0 P g cap l S O nm ps v σ acc w) (k : RPl w0 P g S O) (f : RField) (a : Addr) (c n : Nat) (hn : n = acc.length + 1) (hg : w.grownBy w2 v.ownBlock)
    (ho : w2.ownsRow (O + 1) 125 8 (.slice (some a) n c) n (fldCells acc ++ fldL f)) :
    RrI w0 P g cap l S O nm ps (.slice (some a) n c) σ (acc ++ [f]) (w2.setCell ⟨O, 2, none⟩ (.slice (some a) n c)) := by
  have := k.p; have := k.g; have := k.s; have := k.o
  have hne : ∀ q, v.ownBlock = some q → O + 1 ≤ q := fun q hq => (h.own.lt q hq).1
  have hS := blk_lt h.res
  have hO := blk_lt h.out
  have hb : w2.heap[S]? = _ := (hg.block S hS (fun e => by have := hne S e.symm; omega)).trans h.res
  have ho2 : w2.heap[O]? = _ := (hg.block O hO (fun e => by have := hne O e.symm; omega)).trans h.out
  refine ⟨(h.post.row hg (fun q hq => by have := hne q hq; omega) k.p k.g).far (by omega) k.p k.g 2 _, blk_set_ne hb _ (by simp; omega) _, by rw [blk_set ho2]; rfl, ?_⟩
  rw [← fldCells_snoc, List.length_append, List.length_cons, List.length_nil, ← hn]
  refine ownsRow_at ho (fun q hq => Below.heap_setCell _ _ _ _ ?_)
  have := (ho.lt q hq).1
  simp; omega
end Go.Proofs.YtgoaiokpnifhfaaDoor

/-
  The document's parser: a struct, the walk.
-/
namespace Go.Proofs.YtgoaiokpnifhfaaDoor
open Go.RowKit
set_option linter.unusedVariables false
set_option linter.unusedSimpArgs false

theorem RrI.far {w0 : World} {P g cap : Nat} {l : List Tok} {S O : Nat} {nm : ByteArray} {ps : Nat} {v : Value} {σ : PS} {acc : List RField} {w : World} (h : RrI w0 P g cap l S O nm ps v σ acc w) (k : RPl w0 P g S O) {F : Nat} (hF : O < F) (hv : ∀ q, v.ownBlock = some q → q ≠ F) (j : Nat) (x : Value) : RrI w0 P g cap l S O nm ps v σ acc (w.setCell ⟨F, j, none⟩ x) := by
  have := k.p; have := k.g; have := k.s; have := k.o
  exact ⟨h.post.far (by omega) k.p k.g j x, blk_set_ne h.res _ (by simp; omega) _, blk_set_ne h.out _ (by simp; omega) _, ownsRow_at h.own (fun q hq => Below.heap_setCell _ _ _ _ (by simp; exact hv q hq))⟩
/-- and the field that is being read -/
structure RfI (w0 : World) (P g cap : Nat) (l : List Tok) (S O : Nat) (nm : ByteArray) (ps : Nat) (v : Value) (F : Nat) (f : RField) (σ : PS) (acc : List RField) (w : World) : Prop extends RrI w0 P g cap l S O nm ps v σ acc w where
  fld : w.heap[F]? = some (fldB f)
theorem RfI.step2 {w0 : World} {P g cap : Nat} {l : List Tok} {S O : Nat} {nm : ByteArray} {ps : Nat} {v : Value} {F : Nat} {f : RField} {σ τ : PS} {acc : List RField} {w w' : World} (h : RfI w0 P g cap l S O nm ps v F f σ acc w) (k : RPl w0 P g S O) (hF : O < F) (h2 : RPost w P g cap l τ w') : RfI w0 P g cap l S O nm ps v F f τ acc w' :=
  { toRrI := h.toRrI.step k h2, fld := blk_grown h.fld h2.grown (by have := k.p; have := k.s; have := k.o; omega) }
theorem RfI.new2 {w0 : World} {P g cap : Nat} {l : List Tok} {S O : Nat} {nm : ByteArray} {ps : Nat} {v : Value} {F : Nat} {f : RField} {σ : PS} {acc : List RField} {w w' : World} (h : RfI w0 P g cap l S O nm ps v F f σ acc w) (hb : Below w.heap.size w w') : RfI w0 P g cap l S O nm ps v F f σ acc w' :=
  { toRrI := h.toRrI.new hb, fld := blk_below h.fld hb (blk_lt h.fld) }
theorem RfI.type {w0 : World} {P g cap : Nat} {l : List Tok} {S O : Nat} {nm : ByteArray} {ps : Nat} {v : Value} {F : Nat} {f : RField} {σ : PS} {acc : List RField} {w : World} (h : RfI w0 P g cap l S O nm ps v F f σ acc w) (k : RPl w0 P g S O) (hF : O < F) (hv : ∀ q, v.ownBlock = some q → q ≠ F) (t : RTy) :
    RfI w0 P g cap l S O nm ps v F ⟨f.name, f.pos, t, f.df⟩ σ acc (((w.setCell ⟨F, 2, none⟩ (.string t.name)).setCell ⟨F, 3, none⟩ (.int .i64 (t.lists : Int))).setCell ⟨F, 4, none⟩ (.int .i64 (t.pos : Int))) :=
  { toRrI := ((h.toRrI.far k hF hv _ _).far k hF hv _ _).far k hF hv _ _, fld := by rw [blk_set (blk_set (blk_set h.fld _ _) _ _)]; rfl }
theorem RfI.def {w0 : World} {P g cap : Nat} {l : List Tok} {S O : Nat} {nm : ByteArray} {ps : Nat} {v : Value} {F : Nat} {f : RField} {σ : PS} {acc : List RField} {w : World} (h : RfI w0 P g cap l S O nm ps v F f σ acc w) (k : RPl w0 P g S O) (hF : O < F) (hv : ∀ q, v.ownBlock = some q → q ≠ F) (t : Tok) :
    RfI w0 P g cap l S O nm ps v F ⟨f.name, f.pos, f.ty, t⟩ σ acc (((w.setCell ⟨F, 5, none⟩ (.int .i64 t.kind)).setCell ⟨F, 6, none⟩ (.string t.text)).setCell ⟨F, 7, none⟩ (.int .i64 (t.pos : Int))) :=
  { toRrI := ((h.toRrI.far k hF hv _ _).far k hF hv _ _).far k hF hv _ _, fld := by rw [blk_set (blk_set (blk_set h.fld _ _) _ _)]; rfl }

/-- what a struct's reading comes to -/
def RrPost (w : World) (P g cap : Nat) (l : List Tok) (σ : PS) (e : Ending) (w' : World) : Prop :=
  ∃ v fs τ, e = .returned (.agg #[.string (recV l σ).name, .int .i64 ((recV l σ).pos : Int), v]) ∧ w'.ownsRow w.heap.size 125 8 v fs.length (fldCells fs) ∧ RPost w P g cap l τ w' ∧ Eqv τ (recS l σ) ∧ (τ.c = 0 → fs = (recV l σ).fields)

set_option maxHeartbeats 2000000 in
set_option maxRecDepth 100000 in
theorem rrecord_calls (P g cap : Nat) (l : List Tok) (σ : PS) (w : World) (h : RAt w P g cap l σ) :
    Calls Tryd.prog 107 #[.pointer (some ⟨P, 0, none⟩)] w (RrPost w P g cap l σ) := by
  obtain ⟨it, hit, hzt0, hzt1, hzt2⟩ := info_parts info_field
  have lP := blk_lt h.blk
  have lg := h.toks.lt h.ended.1
  have HE := Lib.hid h.ended
  have H := Lib.hid h
  have hn := fun (W : World) (h : RAt W P g cap l σ) => rname_calls P g cap l σ false W h
  have HN := Lib.hid hn
  clear h hn
  go_enter Tryd.func107, Tryd.ntmps107
  go_wp2_with fail
  refine (HN.out _ (H.out.below (below1 _ _))).mono ?_
  rintro e w1 ⟨rfl, hp1⟩
  have hS1 := blk_grown (blk_new w _) hp1.grown (by omega)
  have hPost1 := (RPost.of_below H.out (below1 _ _)).trans hp1
  have hz1 := hp1.grown.size
  simp only [World.size_alloc] at hz1
  obtain ⟨n, hnv⟩ : ∃ n, n = nameV l false σ := ⟨_, rfl⟩
  rw [← hnv]
  have HRV := Lib.hid (show recV l σ = ⟨n.text, n.pos, (serR l (fieldS l) (fieldV l) (nameS l false σ)).1⟩ by rw [recV, ← hnv])
  have HRS : Hid (recS l σ = (serR l (fieldS l) (fieldV l) (nameS l false σ)).2) := rfl
  have HS1 := Lib.hid hS1
  have HP1 := Lib.hid hPost1
  clear hS1 hPost1 hp1 hnv
  simp only [tokA]
  go_wp2_with fail
  obtain ⟨S, hS⟩ : ∃ S, S = w.heap.size := ⟨_, rfl⟩
  obtain ⟨O, hO⟩ : ∃ O, O = w1.heap.size + 1 := ⟨_, rfl⟩
  have hK : RPl w P g S O := ⟨lP, lg, by omega, by omega⟩
  obtain ⟨σ1, hσ1⟩ : ∃ σ1, σ1 = nameS l false σ := ⟨_, rfl⟩
  have hI0 : RrI w P g cap l S O n.text n.pos (.slice none 0 0) σ1 [] ((w1.alloc (Obj.cells #[Value.int .i64 n.kind, Value.string n.text, Value.int .i64 (n.pos : Int)] 102 (0, 0))).alloc (Obj.cells #[Value.string n.text, Value.int .i64 (n.pos : Int), Value.slice none 0 0] 121 (0, 0))) := by
    refine ⟨by rw [hσ1]; exact (HP1.out.below (below1 _ _)).below (below1 _ _), by rw [hS]; exact blk_alloc (blk_alloc HS1.out _) _, ?_, World.ownsRow_nil _ _ _ _⟩
    have := blk_new (w1.alloc (Obj.cells #[Value.int .i64 n.kind, Value.string n.text, Value.int .i64 (n.pos : Int)] 102 (0, 0))) (Obj.cells #[Value.string n.text, Value.int .i64 (n.pos : Int), Value.slice none 0 0] 121 (0, 0))
    rw [World.size_alloc] at this
    rw [hO]; exact this
  rw [← hσ1] at HRV HRS
  have hz : serR l (fieldS l) (fieldV l) σ1 = serLoop l (fieldS l) (fieldV l) (l.length + 1) (wantS l cOpen σ1) [] := rfl
  have HZ := Lib.hid hz
  refine (rwant_calls P g cap l σ1 cOpen _ hI0.post.par).mono ?_
  rintro e w2 ⟨rfl, hp2⟩
  have HI2 := Lib.hid (hI0.step hK hp2)
  have HK := Lib.hid hK
  rw [← hS, ← hO]
  have hSO : S < O := hK.o
  have hPS : P < S := by have := hK.s; omega
  clear hp2 hI0 hK hS hO hσ1 hz hz1
  go_wp2_with fail
  go_loopw [5] (fun _ wr => ∃ (f : Nat) (τ τ' : PS) (acc acc' : List RField) (v : Value), left l τ ≤ f ∧ acc.length + left l τ ≤ l.length + 1 ∧ Hid (serR l (fieldS l) (fieldV l) σ1 = serLoop l (fieldS l) (fieldV l) f τ' acc') ∧ Hid (Eqv τ τ') ∧ Hid (τ.c = 0 → acc = acc') ∧ Hid (RrI w P g cap l S O n.text n.pos v τ acc wr)) (fun _ wr => parLeft wr P l)
  case atStart => exact ⟨l.length + 1, _, _, [], _, _, left_le, by have := @left_le l (wantS l cOpen σ1); simp; omega, HZ.out, .inl rfl, fun _ => rfl, HI2.out⟩
  case round =>
    obtain ⟨f, τ, τ', acc, acc', v, hf, hal, hs, hq, ha, hI⟩ := hrel
    obtain ⟨av, cv, rfl⟩ := own_len hI.out.own
    have hpar := hI.out.post.par
    have hbP := hpar.blk
    have p1 : wr.cell? ⟨P, 1, none⟩ = some (.int .i64 (τ.a : Int)) := by rw [blk_cell hbP]; rfl
    have p2 : wr.cell? ⟨P, 2, none⟩ = some (.int .i64 τ.c) := by rw [blk_cell hbP]; rfl
    have lPr := blk_lt hbP
    have HPL := Lib.hid (rparLeft_of hpar)
    by_cases h0 : τ.c = 0
    · obtain rfl : τ = τ' := hq.out.eq h0
      obtain rfl : acc = acc' := ha.out h0
      have b0 : (τ.c == 0) = true := by rw [beq_iff_eq]; exact h0
      have hsg := ris_calls P g cap l τ 4 cClose wr hpar
      obtain ⟨f', rfl, hst⟩ := serLoop_step (one := fieldS l) (val := fieldV l) acc hf hpar.fine h0
      have HML := Lib.hid ((fieldS_moves HE.out hpar.fine).left h0 hpar.fine)
      have hff : left l (fieldS l τ) ≤ f' := by have := HML.out; omega
      have hall : (acc ++ [fieldV l τ]).length + left l (fieldS l τ) ≤ l.length + 1 := by have := HML.out; rw [List.length_append]; simp only [List.length_cons, List.length_nil]; omega
      have hacl : acc.length ≤ 100000 := by have := HML.out; have := hpar.small; omega
      have HST := Lib.hid (hs.out.trans hst)
      have ha1 : (τ.a : Int) ≤ 100000 := by have := hpar.fit; have := hpar.small; omega
      cases ht : isT l 4 cClose τ with
      | true =>
        rw [ht] at hsg
        have HQF : Hid (Eqv (goS τ) (goS τ)) := Lib.hid (.inl rfl)
        have HAF : Hid ((goS τ).c = 0 → acc = acc) := Lib.hid (fun _ => rfl)
        have HR := Lib.hid (show serR l (fieldS l) (fieldV l) σ1 = (acc, goS τ) by rw [HST.out, if_pos ht])
        have HFI := Lib.hid (fit_go HE.out hpar.fit (by rw [(isT_kind ht).2.1]; decide))
        clear h0 ht hst hpar hbP hf hs hff hall p1
        go_wp2_with fail
        refine hsg.mono ?_
        rintro e w3 ⟨rfl, hB3⟩
        have hI3 := hI.out.new hB3
        have hbP := hI3.post.par.blk
        have p1' : w3.cell? ⟨P, 1, none⟩ = some (.int .i64 (τ.a : Int)) := by rw [blk_cell hbP]; rfl
        have p2' : w3.cell? ⟨P, 2, none⟩ = some (.int .i64 τ.c) := by rw [blk_cell hbP]; rfl
        have y1' : w3.frozen? ⟨P, 1, none⟩ = false := blk_frozen hbP _
        have lP3 := blk_lt hbP
        have HI4 := Lib.hid (hI3.step HK.out (rpar_go hI3.post.par HFI.out))
        clear hB3 hsg hI3 hbP p2
        have o0 : _ = some (Value.string n.text) := blk_cell HI4.out.out 0
        have o1 : _ = some (Value.int .i64 (n.pos : Int)) := blk_cell HI4.out.out 1
        have o2 : _ = some (Value.slice av acc.length cv) := blk_cell HI4.out.out 2
        have r0 : _ = some (Value.string ⟨#[]⟩) := blk_cell HI4.out.res 0
        have r1 : _ = some (Value.int .i64 0) := blk_cell HI4.out.res 1
        have r2 : _ = some (Value.slice none 0 0) := blk_cell HI4.out.res 2
        have z0 : _ = false := blk_frozen HI4.out.res 0
        have z1 : _ = false := blk_frozen HI4.out.res 1
        have z2 : _ = false := blk_frozen HI4.out.res 2
        have lO := blk_lt HI4.out.out
        have lS := blk_lt HI4.out.res
        have hne2 : S ≠ O := by omega
        go_wp2_with fail
        refine bodyPost_ret (v := .agg #[.string n.text, .int .i64 (n.pos : Int), .slice av acc.length cv]) (by simp [results, Tryd.results107, go_sem, *]) rfl ?_
        unfold RrPost
        rw [HRV.out, HRS.out, HR.out]
        have hs0 := HK.out.s
        have hp0 := HK.out.p
        refine ⟨_, acc, _, rfl, ?_, ?_, (by first | exact HQF.out | exact .inl rfl), fun h => by first | exact HAF.out h | rfl⟩
        · have ho := HI4.out.own
          refine ownsRow_base (ownsRow_at ho (fun q hq => ?_)) (base' := w.heap.size) (by omega)
          have := (ho.lt q hq).1
          rw [Below.heap_setCell _ _ _ _ (by simp; omega), Below.heap_setCell _ _ _ _ (by simp; omega), Below.heap_setCell _ _ _ _ (by simp; omega)]
        · exact ((HI4.out.post.far (by omega) lP lg 0 _).far (by omega) lP lg 1 _).far (by omega) lP lg 2 _
      | false =>
        rw [ht] at hsg
        have HR := Lib.hid (show serR l (fieldS l) (fieldV l) σ1 = serLoop l (fieldS l) (fieldV l) f' (fieldS l τ) (acc ++ [fieldV l τ]) by rw [HST.out, if_neg (by rw [ht]; simp)])
        have HEV := Lib.hid (rfield_eqv l τ)
        have hlr : left l (rfieldS l τ) = left l (fieldS l τ) := by
          unfold left
          rw [HEV.out.c]
          split
          · rename_i hc
            rw [HEV.out.eq (by rw [HEV.out.c]; exact hc)]
          · rfl
        have HLR := Lib.hid hlr
        have HFF := Lib.hid hff
        have HAL := Lib.hid hall
        clear h0 ht hst hpar hbP hf hs p1 hlr hff hall hal
        go_wp2_with fail
        refine hsg.mono ?_
        rintro e w3 ⟨rfl, hB3⟩
        have HI3 := Lib.hid (hI.out.new hB3)
        clear hB3 hsg p2 b0 hq ha
        go_wp2_with fail
        refine (rname_calls P g cap l τ true _ HI3.out.post.par).mono ?_
        rintro e w4 ⟨rfl, hp4⟩
        have hI4 := HI3.out.step HK.out hp4
        obtain ⟨m, hm⟩ : ∃ m, m = nameV l true τ := ⟨_, rfl⟩
        have HM := Lib.hid hm
        rw [← hm]
        have hz4 := HI3.out.own.lt
        have HI4 := Lib.hid hI4
        have lO4 := blk_lt hI4.out
        have HON := Lib.hid hI4.own.lt
        clear hp4 hI4 hm hz4
        simp only [tokA]
        go_wp2_with fail
        obtain ⟨F, hF⟩ : ∃ F, F = w4.heap.size + 1 := ⟨_, rfl⟩
        have hOF : O < F := by omega
        have hvF : ∀ q, (Value.slice av acc.length cv).ownBlock = some q → q ≠ F := fun q hq => by have := (HON.out q hq).2; omega
        have hF0 : RfI w P g cap l S O n.text n.pos (.slice av acc.length cv) F ⟨m.text, m.pos, ⟨⟨#[]⟩, 0, 0⟩, tok0⟩ (nameS l true τ) acc ((w4.alloc (Obj.cells #[Value.int .i64 m.kind, Value.string m.text, Value.int .i64 (m.pos : Int)] 102 (0, 0))).alloc (fldB ⟨m.text, m.pos, ⟨⟨#[]⟩, 0, 0⟩, tok0⟩)) := by
          refine { toRrI := (HI4.out.new (below1 _ _)).new (below1 _ _), fld := ?_ }
          have := blk_new (w4.alloc (Obj.cells #[Value.int .i64 m.kind, Value.string m.text, Value.int .i64 (m.pos : Int)] 102 (0, 0))) (fldB ⟨m.text, m.pos, ⟨⟨#[]⟩, 0, 0⟩, tok0⟩)
          rw [World.size_alloc] at this
          rw [hF]; exact this
        have HVF := Lib.hid hvF
        refine (rwant_calls P g cap l _ cColon _ hF0.post.par).mono ?_
        rintro e w5 ⟨rfl, hp5⟩
        have HI5 := Lib.hid (hF0.step2 HK.out hOF hp5)
        rw [← hF]
        clear hF0 hp5 hF hvF HI4 HON lO4
        go_wp2_with fail
        refine (rkind_calls P g cap l _ _ HI5.out.post.par).mono ?_
        rintro e w6 ⟨ty, rfl, hty, hp6⟩
        have hI6 := HI5.out.step2 HK.out hOF hp6
        have HTY := Lib.hid hty
        clear hp6 hty
        have HI6 := Lib.hid hI6
        have f0 : w6.cell? ⟨F, 0, none⟩ = _ := (blk_cell HI6.out.fld 0).trans rfl
        have f1 : w6.cell? ⟨F, 1, none⟩ = _ := (blk_cell HI6.out.fld 1).trans rfl
        have f2 : w6.cell? ⟨F, 2, none⟩ = _ := (blk_cell HI6.out.fld 2).trans rfl
        have f3 : w6.cell? ⟨F, 3, none⟩ = _ := (blk_cell HI6.out.fld 3).trans rfl
        have f4 : w6.cell? ⟨F, 4, none⟩ = _ := (blk_cell HI6.out.fld 4).trans rfl
        have f5 : w6.cell? ⟨F, 5, none⟩ = _ := (blk_cell HI6.out.fld 5).trans rfl
        have f6 : w6.cell? ⟨F, 6, none⟩ = _ := (blk_cell HI6.out.fld 6).trans rfl
        have f7 : w6.cell? ⟨F, 7, none⟩ = _ := (blk_cell HI6.out.fld 7).trans rfl
        have lF := blk_lt HI6.out.fld
        simp only [fldL, List.getElem?_toArray, List.getElem?_cons_zero, List.getElem?_cons_succ] at f0 f1 f2 f3 f4 f5 f6 f7
        have e2 : w6.frozen? ⟨F, 2, none⟩ = false := blk_frozen HI6.out.fld _
        have e3 : w6.frozen? ⟨F, 3, none⟩ = false := blk_frozen HI6.out.fld _
        have e4 : w6.frozen? ⟨F, 4, none⟩ = false := blk_frozen HI6.out.fld _
        have hI7 := hI6.type HK.out hOF HVF.out ty
        have HI7 := Lib.hid hI7
        have hPF : P ≠ F := by have := HK.out.o; omega
        have hOFn : O ≠ F := by omega
        clear hI6 hI7
        simp only [rtyA]
        go_wp2_with fail
        refine (ris_calls P g cap l _ 4 cEq _ HI7.out.post.par).mono ?_
        rintro e w7 ⟨rfl, hB7⟩
        have hI8 := HI7.out.new2 hB7
        have HI8 := Lib.hid hI8
        clear hB7 hI8 f0 f1 f2 f3 f4 f5 f6 f7 lF e2 e3 e4
        cases htd : isT l 4 cEq (fieldE l τ) with
        | true =>
          have htd' : isT l 4 cEq (kindS l (wantS l cColon (nameS l true τ))) = true := htd
          rw [htd']
          have hd : hasDef l τ = true := htd
          obtain ⟨E, hE⟩ : ∃ E, E = kindS l (wantS l cColon (nameS l true τ)) := ⟨_, rfl⟩
          have hEf : fieldE l τ = E := hE.symm
          rw [← hE] at HI8 htd'
          obtain ⟨t, ht⟩ : ∃ t, t = hereT l (goS E).a := ⟨_, rfl⟩
          have HRF := Lib.hid (show rfieldS l τ = wantS l cSemi (if t.kind = 1 ∨ t.kind = 2 then goS (goS E) else failS l 11 (goS E)) by rw [rfieldS, if_pos hd, rdefS, hEf, ← ht])
          have HDV := Lib.hid (show defV l τ = t by rw [defV, if_pos hd, hEf, ht])
          have HFV := Lib.hid (show (rfieldS l τ).c = 0 → (⟨m.text, m.pos, ty, t⟩ : RField) = fieldV l τ by
            intro _
            have hE0 : (fieldE l τ).c = 0 := (isT_kind htd).1
            rw [HTY.out hE0, HM.out, fieldV, HDV.out]; rfl)
          have HFI := Lib.hid (fit_go HE.out HI8.out.post.par.fit (by rw [(isT_kind htd').2.1]; decide))
          have hbP := HI8.out.post.par.blk
          have p1' : w7.cell? ⟨P, 1, none⟩ = some (.int .i64 (E.a : Int)) := by rw [blk_cell hbP]; rfl
          have y1' : w7.frozen? ⟨P, 1, none⟩ = false := blk_frozen hbP _
          have lP7 := blk_lt hbP
          have haE : (E.a : Int) ≤ 100000 := by have := HI8.out.post.par.fit; have := HI8.out.post.par.small; omega
          have HI9 := Lib.hid (HI8.out.step2 HK.out hOF (rpar_go HI8.out.post.par HFI.out))
          have HT := Lib.hid ht
          clear htd htd' hd hE hEf hbP ht
          go_wp2_with fail
          refine (rhere_calls P g cap l _ _ HI9.out.post.par).mono ?_
          rintro e w8 ⟨rfl, hB8⟩
          rw [← HT.out]
          have HI10 := Lib.hid (HI9.out.new2 hB8)
          clear hB8 p1' y1' lP7
          have f0 : w8.cell? ⟨F, 0, none⟩ = _ := (blk_cell HI10.out.fld 0).trans rfl
          have f1 : w8.cell? ⟨F, 1, none⟩ = _ := (blk_cell HI10.out.fld 1).trans rfl
          have f2 : w8.cell? ⟨F, 2, none⟩ = _ := (blk_cell HI10.out.fld 2).trans rfl
          have f3 : w8.cell? ⟨F, 3, none⟩ = _ := (blk_cell HI10.out.fld 3).trans rfl
          have f4 : w8.cell? ⟨F, 4, none⟩ = _ := (blk_cell HI10.out.fld 4).trans rfl
          have f5 : w8.cell? ⟨F, 5, none⟩ = _ := (blk_cell HI10.out.fld 5).trans rfl
          have f6 : w8.cell? ⟨F, 6, none⟩ = _ := (blk_cell HI10.out.fld 6).trans rfl
          have f7 : w8.cell? ⟨F, 7, none⟩ = _ := (blk_cell HI10.out.fld 7).trans rfl
          have lF := blk_lt HI10.out.fld
          simp only [fldL, List.getElem?_toArray, List.getElem?_cons_zero, List.getElem?_cons_succ] at f0 f1 f2 f3 f4 f5 f6 f7
          have e5 : w8.frozen? ⟨F, 5, none⟩ = false := blk_frozen HI10.out.fld _
          have e6 : w8.frozen? ⟨F, 6, none⟩ = false := blk_frozen HI10.out.fld _
          have e7 : w8.frozen? ⟨F, 7, none⟩ = false := blk_frozen HI10.out.fld _
          have hbP := HI10.out.post.par.blk
          have p1' : w8.cell? ⟨P, 1, none⟩ = some (.int .i64 ((E.a : Int) + 1)) := by rw [blk_cell hbP]; rfl
          have y1' : w8.frozen? ⟨P, 1, none⟩ = false := blk_frozen hbP _
          have lP8 := blk_lt hbP
          have HI11 := Lib.hid (HI10.out.def HK.out hOF HVF.out t)
          clear hbP
          simp only [tokA]
          by_cases hk : t.kind = 1 ∨ t.kind = 2
          · have hk0 : (hereT l (goS E).a).kind ≠ 0 := by rw [← HT.out]; rcases hk with e | e <;> rw [e] <;> decide
            have HFI2 := Lib.hid (fit_go HE.out HI11.out.post.par.fit hk0)
            have HRF2 := Lib.hid (show wantS l cSemi (goS (goS E)) = rfieldS l τ by rw [HRF.out, if_pos hk])
            have hI12 := HI11.out.step2 HK.out hOF (rpar_go HI11.out.post.par HFI2.out)
            have HI12 := Lib.hid hI12
            clear hI12 hk0
            rcases hk with hk | hk
            · have b1 : (t.kind != 1) = false := by rw [hk]; rfl
              clear hk
              go_wp2_with fail
              refine (rwant_calls P g cap l _ cSemi _ HI12.out.post.par).mono ?_
              rintro e w9 ⟨rfl, hp9⟩
              have hI9 := HI12.out.step2 HK.out hOF hp9
              rw [HRF2.out] at hI9
              clear hp9 f0 f1 f2 f3 f4 f5 f6 f7 lF e5 e6 e7 p1' y1' lP8
              have HX := Lib.hid hI9
              have f0 : w9.cell? ⟨F, 0, none⟩ = _ := (blk_cell HX.out.fld 0).trans rfl
              have f1 : w9.cell? ⟨F, 1, none⟩ = _ := (blk_cell HX.out.fld 1).trans rfl
              have f2 : w9.cell? ⟨F, 2, none⟩ = _ := (blk_cell HX.out.fld 2).trans rfl
              have f3 : w9.cell? ⟨F, 3, none⟩ = _ := (blk_cell HX.out.fld 3).trans rfl
              have f4 : w9.cell? ⟨F, 4, none⟩ = _ := (blk_cell HX.out.fld 4).trans rfl
              have f5 : w9.cell? ⟨F, 5, none⟩ = _ := (blk_cell HX.out.fld 5).trans rfl
              have f6 : w9.cell? ⟨F, 6, none⟩ = _ := (blk_cell HX.out.fld 6).trans rfl
              have f7 : w9.cell? ⟨F, 7, none⟩ = _ := (blk_cell HX.out.fld 7).trans rfl
              have lF := blk_lt HX.out.fld
              simp only [fldL, List.getElem?_toArray, List.getElem?_cons_zero, List.getElem?_cons_succ] at f0 f1 f2 f3 f4 f5 f6 f7
              have c2 : w9.cell? ⟨O, 2, none⟩ = some (.slice av acc.length cv) := by rw [blk_cell HX.out.out]; rfl
              have hown := HX.out.own
              have lO9 := blk_lt HX.out.out
              have HON := Lib.hid HX.out.own.lt
              clear hI9
              go_wp2_with (at_builtin; refine wpList_append_lies _ rfl _ _ 119 rfl (O + 1) 125 it _ 8 88 Tryd.underlying119 hit hzt0 hzt1 hzt2 rfl (by decide) _ _ _ rfl (hown.alloc _) ⟨w9.heap.size, 0, none⟩ 1 1 (fldL ⟨m.text, m.pos, ty, t⟩) rfl rfl (news_list _ _ _) (by simp [Value.oneCell', fldL]) (by decide) (by unfold maxLen; omega) (by omega) (by simp; omega) _ rfl ?_)
              intro g2 cap2 wa hown8 hgr8 hat8 hlt8
              have hO8 : wa.heap[O]? = _ := (hgr8.block O (by simp; omega) (fun e => by have := (HON.out O e.symm).1; omega)).trans (blk_alloc HX.out.out _)
              have c3 : wa.cell? ⟨O, 2, none⟩ = some (.slice av acc.length cv) := by rw [blk_cell hO8]; rfl
              have d3 : wa.frozen? ⟨O, 2, none⟩ = false := blk_frozen hO8 _
              have lO8 : O < wa.heap.size := blk_lt hO8
              have HZ := Lib.hid ((HX.out.toRrI.new (below1 _ _)).snoc HK.out ⟨m.text, m.pos, ty, t⟩ _ _ _ rfl hgr8 hown8)
              clear hown8 hgr8 hat8 c2 hO8 hown f0 f1 f2 f3 f4 f5 f6 f7 lF
              go_wp2_with fail
              go_roundw
              case rel => exact ⟨f', _, _, _, _, _, by rw [HLR.out]; exact HFF.out, by rw [HLR.out]; have := HAL.out; simp only [List.length_append, List.length_cons, List.length_nil] at this ⊢; exact this, HR.out, HEV.out, fun hc => by rw [HFV.out hc], HZ.out⟩
              case measure => rw [rparLeft_of HZ.out.post.par, HPL.out, HLR.out]; exact HML.out
            · have b1 : (t.kind != 1) = true := by rw [hk]; rfl
              have b2 : (t.kind != 2) = false := by rw [hk]; rfl
              clear hk
              go_wp2_with fail
              refine (rwant_calls P g cap l _ cSemi _ HI12.out.post.par).mono ?_
              rintro e w9 ⟨rfl, hp9⟩
              have hI9 := HI12.out.step2 HK.out hOF hp9
              rw [HRF2.out] at hI9
              clear hp9 f0 f1 f2 f3 f4 f5 f6 f7 lF e5 e6 e7 p1' y1' lP8
              have HX := Lib.hid hI9
              have f0 : w9.cell? ⟨F, 0, none⟩ = _ := (blk_cell HX.out.fld 0).trans rfl
              have f1 : w9.cell? ⟨F, 1, none⟩ = _ := (blk_cell HX.out.fld 1).trans rfl
              have f2 : w9.cell? ⟨F, 2, none⟩ = _ := (blk_cell HX.out.fld 2).trans rfl
              have f3 : w9.cell? ⟨F, 3, none⟩ = _ := (blk_cell HX.out.fld 3).trans rfl
              have f4 : w9.cell? ⟨F, 4, none⟩ = _ := (blk_cell HX.out.fld 4).trans rfl
              have f5 : w9.cell? ⟨F, 5, none⟩ = _ := (blk_cell HX.out.fld 5).trans rfl
              have f6 : w9.cell? ⟨F, 6, none⟩ = _ := (blk_cell HX.out.fld 6).trans rfl
              have f7 : w9.cell? ⟨F, 7, none⟩ = _ := (blk_cell HX.out.fld 7).trans rfl
              have lF := blk_lt HX.out.fld
              simp only [fldL, List.getElem?_toArray, List.getElem?_cons_zero, List.getElem?_cons_succ] at f0 f1 f2 f3 f4 f5 f6 f7
              have c2 : w9.cell? ⟨O, 2, none⟩ = some (.slice av acc.length cv) := by rw [blk_cell HX.out.out]; rfl
              have hown := HX.out.own
              have lO9 := blk_lt HX.out.out
              have HON := Lib.hid HX.out.own.lt
              clear hI9
              go_wp2_with (at_builtin; refine wpList_append_lies _ rfl _ _ 119 rfl (O + 1) 125 it _ 8 88 Tryd.underlying119 hit hzt0 hzt1 hzt2 rfl (by decide) _ _ _ rfl (hown.alloc _) ⟨w9.heap.size, 0, none⟩ 1 1 (fldL ⟨m.text, m.pos, ty, t⟩) rfl rfl (news_list _ _ _) (by simp [Value.oneCell', fldL]) (by decide) (by unfold maxLen; omega) (by omega) (by simp; omega) _ rfl ?_)
              intro g2 cap2 wa hown8 hgr8 hat8 hlt8
              have hO8 : wa.heap[O]? = _ := (hgr8.block O (by simp; omega) (fun e => by have := (HON.out O e.symm).1; omega)).trans (blk_alloc HX.out.out _)
              have c3 : wa.cell? ⟨O, 2, none⟩ = some (.slice av acc.length cv) := by rw [blk_cell hO8]; rfl
              have d3 : wa.frozen? ⟨O, 2, none⟩ = false := blk_frozen hO8 _
              have lO8 : O < wa.heap.size := blk_lt hO8
              have HZ := Lib.hid ((HX.out.toRrI.new (below1 _ _)).snoc HK.out ⟨m.text, m.pos, ty, t⟩ _ _ _ rfl hgr8 hown8)
              clear hown8 hgr8 hat8 c2 hO8 hown f0 f1 f2 f3 f4 f5 f6 f7 lF
              go_wp2_with fail
              go_roundw
              case rel => exact ⟨f', _, _, _, _, _, by rw [HLR.out]; exact HFF.out, by rw [HLR.out]; have := HAL.out; simp only [List.length_append, List.length_cons, List.length_nil] at this ⊢; exact this, HR.out, HEV.out, fun hc => by rw [HFV.out hc], HZ.out⟩
              case measure => rw [rparLeft_of HZ.out.post.par, HPL.out, HLR.out]; exact HML.out
          · have b1 : (t.kind != 1) = true := by rw [bne_iff_ne]; exact fun e => hk (.inl e)
            have b2 : (t.kind != 2) = true := by rw [bne_iff_ne]; exact fun e => hk (.inr e)
            have HRF2 := Lib.hid (show wantS l cSemi (failS l 11 (goS E)) = rfieldS l τ by rw [HRF.out, if_neg hk])
            clear hk
            go_wp2_with fail
            refine (rbad_calls P g cap l _ 11 _ HI11.out.post.par).mono ?_
            rintro e wb ⟨rfl, hpb⟩
            have HI12 := Lib.hid (HI11.out.step2 HK.out hOF hpb)
            clear hpb
            go_wp2_with fail
            refine (rwant_calls P g cap l _ cSemi _ HI12.out.post.par).mono ?_
            rintro e w9 ⟨rfl, hp9⟩
            have hI9 := HI12.out.step2 HK.out hOF hp9
            rw [HRF2.out] at hI9
            clear hp9 f0 f1 f2 f3 f4 f5 f6 f7 lF e5 e6 e7 p1' y1' lP8
            have HX := Lib.hid hI9
            have f0 : w9.cell? ⟨F, 0, none⟩ = _ := (blk_cell HX.out.fld 0).trans rfl
            have f1 : w9.cell? ⟨F, 1, none⟩ = _ := (blk_cell HX.out.fld 1).trans rfl
            have f2 : w9.cell? ⟨F, 2, none⟩ = _ := (blk_cell HX.out.fld 2).trans rfl
            have f3 : w9.cell? ⟨F, 3, none⟩ = _ := (blk_cell HX.out.fld 3).trans rfl
            have f4 : w9.cell? ⟨F, 4, none⟩ = _ := (blk_cell HX.out.fld 4).trans rfl
            have f5 : w9.cell? ⟨F, 5, none⟩ = _ := (blk_cell HX.out.fld 5).trans rfl
            have f6 : w9.cell? ⟨F, 6, none⟩ = _ := (blk_cell HX.out.fld 6).trans rfl
            have f7 : w9.cell? ⟨F, 7, none⟩ = _ := (blk_cell HX.out.fld 7).trans rfl
            have lF := blk_lt HX.out.fld
            simp only [fldL, List.getElem?_toArray, List.getElem?_cons_zero, List.getElem?_cons_succ] at f0 f1 f2 f3 f4 f5 f6 f7
            have c2 : w9.cell? ⟨O, 2, none⟩ = some (.slice av acc.length cv) := by rw [blk_cell HX.out.out]; rfl
            have hown := HX.out.own
            have lO9 := blk_lt HX.out.out
            have HON := Lib.hid HX.out.own.lt
            clear hI9
            go_wp2_with (at_builtin; refine wpList_append_lies _ rfl _ _ 119 rfl (O + 1) 125 it _ 8 88 Tryd.underlying119 hit hzt0 hzt1 hzt2 rfl (by decide) _ _ _ rfl (hown.alloc _) ⟨w9.heap.size, 0, none⟩ 1 1 (fldL ⟨m.text, m.pos, ty, t⟩) rfl rfl (news_list _ _ _) (by simp [Value.oneCell', fldL]) (by decide) (by unfold maxLen; omega) (by omega) (by simp; omega) _ rfl ?_)
            intro g2 cap2 wa hown8 hgr8 hat8 hlt8
            have hO8 : wa.heap[O]? = _ := (hgr8.block O (by simp; omega) (fun e => by have := (HON.out O e.symm).1; omega)).trans (blk_alloc HX.out.out _)
            have c3 : wa.cell? ⟨O, 2, none⟩ = some (.slice av acc.length cv) := by rw [blk_cell hO8]; rfl
            have d3 : wa.frozen? ⟨O, 2, none⟩ = false := blk_frozen hO8 _
            have lO8 : O < wa.heap.size := blk_lt hO8
            have HZ := Lib.hid ((HX.out.toRrI.new (below1 _ _)).snoc HK.out ⟨m.text, m.pos, ty, t⟩ _ _ _ rfl hgr8 hown8)
            clear hown8 hgr8 hat8 c2 hO8 hown f0 f1 f2 f3 f4 f5 f6 f7 lF
            go_wp2_with fail
            go_roundw
            case rel => exact ⟨f', _, _, _, _, _, by rw [HLR.out]; exact HFF.out, by rw [HLR.out]; have := HAL.out; simp only [List.length_append, List.length_cons, List.length_nil] at this ⊢; exact this, HR.out, HEV.out, fun hc => by rw [HFV.out hc], HZ.out⟩
            case measure => rw [rparLeft_of HZ.out.post.par, HPL.out, HLR.out]; exact HML.out
        | false =>
          have htd' : isT l 4 cEq (kindS l (wantS l cColon (nameS l true τ))) = false := htd
          rw [htd']
          have hd : hasDef l τ = false := htd
          have HRF := Lib.hid (show rfieldS l τ = wantS l cSemi (fieldE l τ) by rw [rfieldS, if_neg (by rw [hd]; simp)])
          have HDV := Lib.hid (show defV l τ = tok0 by rw [defV, if_neg (by rw [hd]; simp)])
          clear htd htd' hd
          go_wp2_with fail
          refine (rwant_calls P g cap l _ cSemi _ HI8.out.post.par).mono ?_
          rintro e w9 ⟨rfl, hp9⟩
          have hI9 := HI8.out.step2 HK.out hOF hp9
          rw [show wantS l cSemi (kindS l (wantS l cColon (nameS l true τ))) = rfieldS l τ from HRF.out.symm] at hI9
          have HFV := Lib.hid (show (rfieldS l τ).c = 0 → (⟨m.text, m.pos, ty, tok0⟩ : RField) = fieldV l τ by
            intro hc
            have hE : (fieldE l τ).c = 0 := by
              by_cases e : (fieldE l τ).c = 0
              · exact e
              · rw [HRF.out, wantS_stuck e] at hc; exact absurd hc e
            rw [HTY.out hE, HM.out, fieldV, HDV.out]; rfl)
          clear hp9
          have HX := Lib.hid hI9
          have f0 : w9.cell? ⟨F, 0, none⟩ = _ := (blk_cell HX.out.fld 0).trans rfl
          have f1 : w9.cell? ⟨F, 1, none⟩ = _ := (blk_cell HX.out.fld 1).trans rfl
          have f2 : w9.cell? ⟨F, 2, none⟩ = _ := (blk_cell HX.out.fld 2).trans rfl
          have f3 : w9.cell? ⟨F, 3, none⟩ = _ := (blk_cell HX.out.fld 3).trans rfl
          have f4 : w9.cell? ⟨F, 4, none⟩ = _ := (blk_cell HX.out.fld 4).trans rfl
          have f5 : w9.cell? ⟨F, 5, none⟩ = _ := (blk_cell HX.out.fld 5).trans rfl
          have f6 : w9.cell? ⟨F, 6, none⟩ = _ := (blk_cell HX.out.fld 6).trans rfl
          have f7 : w9.cell? ⟨F, 7, none⟩ = _ := (blk_cell HX.out.fld 7).trans rfl
          have lF := blk_lt HX.out.fld
          simp only [fldL, List.getElem?_toArray, List.getElem?_cons_zero, List.getElem?_cons_succ] at f0 f1 f2 f3 f4 f5 f6 f7
          have c2 : w9.cell? ⟨O, 2, none⟩ = some (.slice av acc.length cv) := by rw [blk_cell HX.out.out]; rfl
          have hown := HX.out.own
          have lO9 := blk_lt HX.out.out
          have HON := Lib.hid HX.out.own.lt
          clear hI9
          go_wp2_with (at_builtin; refine wpList_append_lies _ rfl _ _ 119 rfl (O + 1) 125 it _ 8 88 Tryd.underlying119 hit hzt0 hzt1 hzt2 rfl (by decide) _ _ _ rfl (hown.alloc _) ⟨w9.heap.size, 0, none⟩ 1 1 (fldL ⟨m.text, m.pos, ty, tok0⟩) rfl rfl (news_list _ _ _) (by simp [Value.oneCell', fldL]) (by decide) (by unfold maxLen; omega) (by omega) (by simp; omega) _ rfl ?_)
          intro g2 cap2 wa hown8 hgr8 hat8 hlt8
          have hO8 : wa.heap[O]? = _ := (hgr8.block O (by simp; omega) (fun e => by have := (HON.out O e.symm).1; omega)).trans (blk_alloc HX.out.out _)
          have c3 : wa.cell? ⟨O, 2, none⟩ = some (.slice av acc.length cv) := by rw [blk_cell hO8]; rfl
          have d3 : wa.frozen? ⟨O, 2, none⟩ = false := blk_frozen hO8 _
          have lO8 : O < wa.heap.size := blk_lt hO8
          have HZ := Lib.hid ((HX.out.toRrI.new (below1 _ _)).snoc HK.out ⟨m.text, m.pos, ty, tok0⟩ _ _ _ rfl hgr8 hown8)
          clear hown8 hgr8 hat8 c2 hO8 hown f0 f1 f2 f3 f4 f5 f6 f7 lF
          go_wp2_with fail
          go_roundw
          case rel => exact ⟨f', _, _, _, _, _, by rw [HLR.out]; exact HFF.out, by rw [HLR.out]; have := HAL.out; simp only [List.length_append, List.length_cons, List.length_nil] at this ⊢; exact this, HR.out, HEV.out, fun hc => by rw [HFV.out hc], HZ.out⟩
          case measure => rw [rparLeft_of HZ.out.post.par, HPL.out, HLR.out]; exact HML.out
    · have b0 : (τ.c == 0) = false := by rw [beq_eq_false_iff_ne]; exact h0
      have HR := Lib.hid (show serR l (fieldS l) (fieldV l) σ1 = (acc', τ') by rw [hs.out, serLoop_stuck _ _ (by rw [← hq.out.c]; exact h0)])
      have HQF : Hid (Eqv τ τ') := hq
      have HAF : Hid (τ.c = 0 → acc = acc') := Lib.hid (fun e => absurd e h0)
      have HI4 := hI
      clear h0 hpar hbP hf hs p1 hal
      have o0 : _ = some (Value.string n.text) := blk_cell HI4.out.out 0
      have o1 : _ = some (Value.int .i64 (n.pos : Int)) := blk_cell HI4.out.out 1
      have o2 : _ = some (Value.slice av acc.length cv) := blk_cell HI4.out.out 2
      have r0 : _ = some (Value.string ⟨#[]⟩) := blk_cell HI4.out.res 0
      have r1 : _ = some (Value.int .i64 0) := blk_cell HI4.out.res 1
      have r2 : _ = some (Value.slice none 0 0) := blk_cell HI4.out.res 2
      have z0 : _ = false := blk_frozen HI4.out.res 0
      have z1 : _ = false := blk_frozen HI4.out.res 1
      have z2 : _ = false := blk_frozen HI4.out.res 2
      have lO := blk_lt HI4.out.out
      have lS := blk_lt HI4.out.res
      have hne2 : S ≠ O := by omega
      go_wp2_with fail
      refine bodyPost_ret (v := .agg #[.string n.text, .int .i64 (n.pos : Int), .slice av acc.length cv]) (by simp [results, Tryd.results107, go_sem, *]) rfl ?_
      unfold RrPost
      rw [HRV.out, HRS.out, HR.out]
      have hs0 := HK.out.s
      have hp0 := HK.out.p
      refine ⟨_, acc, _, rfl, ?_, ?_, (by first | exact HQF.out | exact .inl rfl), fun h => by first | exact HAF.out h | rfl⟩
      · have ho := HI4.out.own
        refine ownsRow_base (ownsRow_at ho (fun q hq => ?_)) (base' := w.heap.size) (by omega)
        have := (ho.lt q hq).1
        rw [Below.heap_setCell _ _ _ _ (by simp; omega), Below.heap_setCell _ _ _ _ (by simp; omega), Below.heap_setCell _ _ _ _ (by simp; omega)]
      · exact ((HI4.out.post.far (by omega) lP lg 0 _).far (by omega) lP lg 1 _).far (by omega) lP lg 2 _

end Go.Proofs.YtgoaiokpnifhfaaDoor
