/-
  LayoutApart's question.
-/
import Derived.Test.YtlfpakopahmdiaaAskTables
import Derived.Test.YtlfpakopahmdiaaApartF
import Derived.Deep.RegionHeld3
import Derived.Deep.OwnRows
import Derived.Test.YtlfpakopahmdiaaNoEnter
import Derived.BigQuiet
namespace Go.Proofs.Ytlfpakopahmdiaa
open Go.RowKit
set_option linter.unusedVariables false
set_option linter.unusedSimpArgs false

theorem sc_keep {w : World} {p q : Addr} {x v : Value} (hne : p.block ≠ q.block) (h : w.cell? q = some v) : (w.setCell p x).cell? q = some v := (World.cell?_setCell_other _ _ _ _ (fun e => hne (by rw [e]))).trans h
theorem sc_same {w : World} {p : Addr} {x : Value} (h : (w.cell? p).isSome = true) : (w.setCell p x).cell? p = some x := by
  obtain ⟨u, hu⟩ := Option.isSome_iff_exists.1 h
  exact World.cell?_setCell_same _ _ _ hu
theorem sc_off {w : World} {p q : Addr} {x v : Value} (hne : p ≠ q) (h : w.cell? q = some v) : (w.setCell p x).cell? q = some v := (World.cell?_setCell_other _ _ _ _ hne).trans h
theorem sc_any {w : World} {p q : Addr} {x : Value} (h : (w.cell? q).isSome = true) : ((w.setCell p x).cell? q).isSome = true := by
  obtain ⟨u, hu⟩ := Option.isSome_iff_exists.1 h
  obtain ⟨v, hv⟩ := cell?_setCell_some (w := w) (p := p) (x := x) (q := q) hu
  rw [hv]; rfl
/-- behind the first statement: the record in words, and in rows, in blocks of their own -/
structure TwoAt (W1 : World) (fs : List FField) (X Y gx gy : Nat) (wr : World) : Prop where
  below : Below W1.heap.size W1 wr
  lx : X < wr.heap.size
  ly : Y < wr.heap.size
  lgx : gx < wr.heap.size
  lgy : gy < wr.heap.size
  x0 : wr.cell? ⟨X, 0, none⟩ = some (.int .i64 (wordsN fs))
  x1 : wr.cell? ⟨X, 1, none⟩ = some (.int .i64 (wordsP fs).1)
  x2 : wr.cell? ⟨X, 2, none⟩ = some (.slice (some ⟨gx, 0, none⟩) fs.length fs.length)
  y0 : wr.cell? ⟨Y, 0, none⟩ = some (.int .i64 (rowsOf fs fs.length).size)
  y1 : wr.cell? ⟨Y, 1, none⟩ = some (.slice (some ⟨gy, 0, none⟩) fs.length fs.length)
  gx : ∀ i, i < fs.length → wr.cell? ⟨gx, i, none⟩ = some (.int .i64 (ag (wordsP fs).2 i))
  gy : ∀ i, i < fs.length → wr.cell? ⟨gy, i, none⟩ = some (.int .i64 (ag (rowsOf fs fs.length).at_ i))
theorem TwoAt.later {W1 : World} {fs : List FField} {X Y gx gy : Nat} {w w' : World} (h : TwoAt W1 fs X Y gx gy w) (hb : Below w.heap.size w w') : TwoAt W1 fs X Y gx gy w' :=
  ⟨h.below.trans (hb.mono h.below.size), Nat.lt_of_lt_of_le h.lx hb.size, Nat.lt_of_lt_of_le h.ly hb.size, Nat.lt_of_lt_of_le h.lgx hb.size, Nat.lt_of_lt_of_le h.lgy hb.size,
   (hb.cell (p := ⟨X, 0, none⟩) h.lx).trans h.x0, (hb.cell (p := ⟨X, 1, none⟩) h.lx).trans h.x1, (hb.cell (p := ⟨X, 2, none⟩) h.lx).trans h.x2, (hb.cell (p := ⟨Y, 0, none⟩) h.ly).trans h.y0, (hb.cell (p := ⟨Y, 1, none⟩) h.ly).trans h.y1,
   fun i hi => (hb.cell (p := ⟨gx, i, none⟩) h.lgx).trans (h.gx i hi), fun i hi => (hb.cell (p := ⟨gy, i, none⟩) h.lgy).trans (h.gy i hi)⟩
/-- behind the calls: all that is read later on -/
structure NineAt (W1 : World) (fs : List FField) (th : List Bool) (X Y Z gx gy gz RR b c : Nat) (nm : ByteArray) (A : Option Addr) (w : World) : Prop where
  two : TwoAt W1 fs X Y gx gy w
  lz : Z < w.heap.size
  lgz : gz < w.heap.size
  lr : RR < w.heap.size
  lb : b < w.heap.size
  z0 : w.cell? ⟨Z, 0, none⟩ = some (.slice (some ⟨gz, 0, none⟩) fs.length fs.length)
  z1 : w.cell? ⟨Z, 1, none⟩ = some (.int .i64 (tOut fs th 4).size)
  gz : ∀ i, i < fs.length → w.cell? ⟨gz, i, none⟩ = some (.int .i64 (ag (tOut fs th 4).at_ i))
  r1 : w.cell? ⟨RR, 1, none⟩ = some (.slice (some ⟨b, 0, none⟩) fs.length c)
  fr : FieldsAt w b 0 fs
  bt : BoolsAt w A th
theorem NineAt.later {W1 : World} {fs : List FField} {th : List Bool} {X Y Z gx gy gz RR b c : Nat} {nm : ByteArray} {A : Option Addr} {w w' : World} (h : NineAt W1 fs th X Y Z gx gy gz RR b c nm A w) (hb : Below w.heap.size w w') : NineAt W1 fs th X Y Z gx gy gz RR b c nm A w' :=
  ⟨h.two.later hb, Nat.lt_of_lt_of_le h.lz hb.size, Nat.lt_of_lt_of_le h.lgz hb.size, Nat.lt_of_lt_of_le h.lr hb.size, Nat.lt_of_lt_of_le h.lb hb.size,
   (hb.cell (p := ⟨Z, 0, none⟩) h.lz).trans h.z0, (hb.cell (p := ⟨Z, 1, none⟩) h.lz).trans h.z1, fun i hi => (hb.cell (p := ⟨gz, i, none⟩) h.lgz).trans (h.gz i hi), (hb.cell (p := ⟨RR, 1, none⟩) h.lr).trans h.r1, h.fr.below hb h.lb, h.bt.below hb⟩
/-- worlds in which all that the round reads stands -/
structure CW (W9 : World) (F : Nat) (o : Obj) where
  val : World
  below : Below W9.heap.size W9 val
  fld : val.heap[F]? = some o
theorem call_wp {P : Program} {o : Oper} {a : Act} {w : World} {K : Act → World → Prop} {Q' : Exit → Act → World → Prop} (f : FuncId) (args : Array Value) (hrun : (execOp a.eval o).run P w = .ok (.enter f args) w) (v : Value) (S : World → Prop) (hC : Calls P f args w fun e w' => e = .returned v ∧ S w') (h : ∀ w', S w' → K (a.put o.dst v) w') : o.wp P a w K Q' := by
  unfold Oper.wp
  rw [hrun]
  simp only [Oper.upon]
  exact hC.mono fun e w' hh => by obtain ⟨rfl, hs⟩ := hh; exact h w' hs
theorem sle0 (s : Nat) : s ≤ s := by omega
theorem sle1 (s : Nat) : s ≤ s + 1 := by omega
theorem sle2 (s : Nat) : s ≤ s + 1 + 1 := by omega
theorem sle3 (s : Nat) : s ≤ s + 1 + 1 + 1 := by omega
theorem sne01 (s : Nat) : s ≠ s + 1 := by omega
theorem sne02 (s : Nat) : s ≠ s + 1 + 1 := by omega
theorem sne03 (s : Nat) : s ≠ s + 1 + 1 + 1 := by omega
theorem sne10 (s : Nat) : s + 1 ≠ s := by omega
theorem sne12 (s : Nat) : s + 1 ≠ s + 1 + 1 := by omega
theorem sne13 (s : Nat) : s + 1 ≠ s + 1 + 1 + 1 := by omega
theorem sne20 (s : Nat) : s + 1 + 1 ≠ s := by omega
theorem sne21 (s : Nat) : s + 1 + 1 ≠ s + 1 := by omega
theorem sne23 (s : Nat) : s + 1 + 1 ≠ s + 1 + 1 + 1 := by omega
theorem sne30 (s : Nat) : s + 1 + 1 + 1 ≠ s := by omega
theorem sne31 (s : Nat) : s + 1 + 1 + 1 ≠ s + 1 := by omega
theorem sne32 (s : Nat) : s + 1 + 1 + 1 ≠ s + 1 + 1 := by omega
theorem rowB_made (n : Nat) : rowB n (fun _ => false) = .cells (madeCells #[Value.bool false] n) 4 (0, 0) := by
  unfold rowB
  congr 1
  apply Array.ext
  · simp [size_madeCells]
  · intro i h1 h2
    simp [madeCells, Nat.mod_one]
theorem four1 (w : World) (a b c d : Obj) : ((((w.alloc a).alloc b).alloc c).alloc d).heap[w.heap.size]? = some a := blk_alloc (blk_alloc (blk_alloc (blk_new w a) _) _) _
theorem four2 (w : World) (a b c d : Obj) : ((((w.alloc a).alloc b).alloc c).alloc d).heap[w.heap.size + 1]? = some b := by
  have := blk_new (w.alloc a) b
  rw [World.size_alloc] at this
  exact blk_alloc (blk_alloc this _) _
theorem four3 (w : World) (a b c d : Obj) : ((((w.alloc a).alloc b).alloc c).alloc d).heap[w.heap.size + 1 + 1]? = some c := by
  have := blk_new ((w.alloc a).alloc b) c
  rw [World.size_alloc, World.size_alloc] at this
  exact blk_alloc this _
theorem four4 (w : World) (a b c d : Obj) : ((((w.alloc a).alloc b).alloc c).alloc d).heap[w.heap.size + 1 + 1 + 1]? = some d := by
  have := blk_new (((w.alloc a).alloc b).alloc c) d
  rw [World.size_alloc, World.size_alloc, World.size_alloc] at this
  exact this
theorem four_below (w : World) (a b c d : Obj) : Below w.heap.size w ((((w.alloc a).alloc b).alloc c).alloc d) := ((((below1 w a).alloc (by simp) b).alloc (by simp; omega) c).alloc (by simp; omega) d)
theorem ints_cell {w : World} {g : Nat} {l : List Int} {n : Nat} (h : w.heap[g]? = some (.cells (l.map (Value.int .i64)).toArray 3 (0, 0))) (hl : l.length = n) (i : Nat) (hi : i < n) : w.cell? ⟨g, i, none⟩ = some (.int .i64 (ag l i)) := by
  rw [blk_cell h]
  subst hl
  simp [ag, List.getD, hi]

theorem rowB_owns {w : World} {base b N : Nat} {f : Nat → Bool} (hb : base ≤ b) (h : w.heap[b]? = some (rowB N f)) (hN : N ≤ 100000) : w.ownsRow base 4 1 (.slice (some ⟨b, 0, none⟩) N N) N ((List.range N).map fun x => Value.bool (f x)) := by
  refine ⟨by simp, .inr ⟨b, N, _, rfl, hb, h, Nat.le_refl _, by unfold maxLen; omega, by simp, ?_⟩⟩
  rw [Nat.mul_one]
  show ((List.range N).map fun x => Value.bool (f x)).toArray.toList.take N = _
  rw [List.take_of_length_le (by simp)]
theorem rowB_news {w : World} {b N : Nat} {f : Nat → Bool} (h : w.heap[b]? = some (rowB N f)) : ∀ j u, ((List.range N).map fun x => Value.bool (f x))[j]? = some u → w.cell? ((⟨b, 0, none⟩ : Addr).add j) = some u := World.news_of_block (cs := ((List.range N).map fun x => Value.bool (f x)).toArray) h
theorem rowB_one (N : Nat) (f : Nat → Bool) : ∀ u ∈ (List.range N).map fun x => Value.bool (f x), u.oneCell' = true := by
  intro u hu
  obtain ⟨x, _, rfl⟩ := List.mem_map.1 hu
  rfl
theorem rowB_both {n m N : Nat} {f g : Nat → Bool} (hN : N = n + m) (hf : ∀ x, x < n → f x = true) (hg : ∀ x, x < m → g x = true) : ((List.range n).map fun x => Value.bool (f x)) ++ ((List.range m).map fun x => Value.bool (g x)) = (List.range N).map fun _ => Value.bool true := by
  subst hN
  have e1 : ((List.range n).map fun x => Value.bool (f x)) = (List.range n).map fun _ => Value.bool true := List.map_congr_left fun x hx => by rw [hf x (List.mem_range.1 hx)]
  have e2 : ((List.range m).map fun x => Value.bool (g x)) = (List.range m).map fun _ => Value.bool true := List.map_congr_left fun x hx => by rw [hg x (List.mem_range.1 hx)]
  rw [e1, e2]
  simp only [List.map_const', List.length_range, List.replicate_append_replicate]
theorem bget_true (N j : Nat) (h : j < N) : bget ((List.range N).map fun _ => true) j = true := by
  unfold bget
  rw [getElem!_pos _ j (by simpa using h)]
  simp
set_option maxHeartbeats 20000000 in
set_option maxRecDepth 100000 in
theorem ask_apart (mb : Nat) (m : Int) (hm0 : 0 ≤ m) (hm1 : m < 4294967296) : AskOk 32 #[.pointer (some ⟨mb, 0, none⟩)] (fun W => mb < W.heap.size ∧ W.cell? ⟨mb, 0, none⟩ = some (.int .u32 m)) := by
  intro vs nm b c fs W hgd hb hf ⟨hmb, hmc⟩
  have hn := hgd.2.1
  have hok : ∀ f ∈ fs, f.ok := fun f h => (hgd.2.2 f h).1
  obtain ⟨ib, hib, hzb0, hzb1, hzb2⟩ := info_parts info_bool
  clear hgd
  show Calls _ _ #[.agg vs, .agg #[.string nm, .slice (some ⟨b, 0, none⟩) fs.length c], .pointer (some ⟨mb, 0, none⟩)] _ _
  go_enter Try.func32, Try.ntmps32
  go_wp2_with fail
  have hB0 : Below W.heap.size W ((W.alloc (Obj.cells vs 33)).alloc (Obj.cells #[.string nm, .slice (some ⟨b, 0, none⟩) fs.length c] 36)) := by (repeat' (first | (with_reducible exact Below.refl _ _) | (with_reducible assumption) | (with_reducible refine Below.alloc ?_ ?_ _) | (with_reducible refine Below.drew ?_) | (with_reducible refine Below.setCell ?_ ?_ _) | (with_reducible refine Below.trans ?_ (Below.mono (by assumption) ?_)) | go_size))
  obtain ⟨W1, hW1⟩ : ∃ x, x = (W.alloc (Obj.cells vs 33)).alloc (Obj.cells #[.string nm, .slice (some ⟨b, 0, none⟩) fs.length c] 36) := ⟨_, rfl⟩
  have hR1 : W1.heap[W.heap.size + 1]? = some (.cells #[.string nm, .slice (some ⟨b, 0, none⟩) fs.length c] 36 (0, 0)) := by
    have := blk_new (W.alloc (Obj.cells vs 33)) (Obj.cells #[.string nm, .slice (some ⟨b, 0, none⟩) fs.length c] 36)
    rw [hW1]; simpa using this
  rw [← hW1] at hB0 ⊢
  clear hW1
  have hz0 := hB0.size
  have lR := blk_lt hR1
  obtain ⟨RR, hRR⟩ : ∃ R, R = W.heap.size + 1 := ⟨_, rfl⟩
  rw [← hRR] at hR1 lR ⊢
  clear hRR
  have q0 : W1.cell? ⟨RR, 0, none⟩ = some (.string nm) := by rw [blk_cell hR1]; rfl
  have q1 : W1.cell? ⟨RR, 1, none⟩ = some (.slice (some ⟨b, 0, none⟩) fs.length c) := by rw [blk_cell hR1]; rfl
  have hc1 := fun (V : World) (hV : Below W1.heap.size W1 V) => layoutWords_calls nm b 0 c fs hn V (Nat.lt_of_lt_of_le hb (Nat.le_trans hz0 hV.size)) ((hf.below hB0 hb).below hV (Nat.lt_of_lt_of_le hb hz0))
  have hc2 := fun (V : World) (hV : Below W1.heap.size W1 V) => layoutRowed_calls nm b 0 c fs hn V (Nat.lt_of_lt_of_le hb (Nat.le_trans hz0 hV.size)) ((hf.below hB0 hb).below hV (Nat.lt_of_lt_of_le hb hz0))
  have HC1 := Lib.hid hc1
  have HC2 := Lib.hid hc2
  have hlw : (wordsP fs).2.length = fs.length := (words_apart fs).2.2.2
  have hlr : (rowsOf fs fs.length).at_.length = fs.length := (rows_apart fs fs.length (Nat.le_refl _)).2.2
  have hfr := hf.below hB0 hb
  have HFR := Lib.hid hfr
  have hlb : b < W1.heap.size := by omega
  clear hc1 hc2 hfr
  go_upto_region 1 with (fail)
  go_cut [6, 7] (fun v6 v7 wr => ∃ X Y gx gy, v6 = .pointer (some ⟨X, 0, none⟩) ∧ v7 = .pointer (some ⟨Y, 0, none⟩) ∧ TwoAt W1 fs X Y gx gy wr)
  case first =>
    have d0 : W1.drew.cell? ⟨RR, 0, none⟩ = some (.string nm) := q0
    have d1 : W1.drew.cell? ⟨RR, 1, none⟩ = some (.slice (some ⟨b, 0, none⟩) fs.length c) := q1
    go_region_held3 (fun w' => w'.cell? ⟨RR, 0, none⟩ = some (.string nm) ∧ w'.cell? ⟨RR, 1, none⟩ = some (.slice (some ⟨b, 0, none⟩) fs.length c)) (first | (with_reducible exact ⟨q0, q1⟩) | ((try go_split_ands); refine ⟨?_, ?_⟩ <;> (repeat' (first | (with_reducible assumption) | (with_reducible exact q0) | (with_reducible exact q1) | (with_reducible refine alloc_keep ?_) | (with_reducible refine drew_keep ?_) | (with_reducible refine sc_keep ?_ ?_) | (dsimp only; omega))))) (first | (go_at_call 19; refine (HC1.out _ (by (repeat' (first | (with_reducible exact Below.refl _ _) | (with_reducible assumption) | (with_reducible refine Below.alloc ?_ ?_ _) | (with_reducible refine Below.drew ?_) | (with_reducible refine Below.setCell ?_ ?_ _) | (with_reducible refine Below.trans ?_ (Below.mono (by assumption) ?_)) | go_size)))).mono ?_; rintro e wA ⟨ga, rfl, hga, hGA, hBA⟩; have lga := blk_lt hGA; (try simp only [World.size_alloc, World.size_setCell, World.size_drew] at hga); have kA := ints_cell hGA hlw; clear hGA; have hBA1 : Below W1.heap.size W1 wA := (by (repeat' (first | (with_reducible exact Below.refl _ _) | (with_reducible assumption) | (with_reducible refine Below.alloc ?_ ?_ _) | (with_reducible refine Below.drew ?_) | (with_reducible refine Below.setCell ?_ ?_ _) | (with_reducible refine Below.trans ?_ (Below.mono (by assumption) ?_)) | go_size))); have hzA := hBA.size; (try simp only [World.size_alloc, World.size_setCell, World.size_drew] at hzA); obtain ⟨hcA, hfA⟩ := bcell hBA; have hyA := hBA1.size; (try have hs1 : W1.heap.size < wA.heap.size := by omega); (try have hs2 : W1.heap.size + 1 < wA.heap.size := by omega); have r0A := (hBA1.cell (p := ⟨RR, 0, none⟩) lR).trans q0; have r1A := (hBA1.cell (p := ⟨RR, 1, none⟩) lR).trans q1) | (go_at_call 25; refine (HC2.out _ (by (repeat' (first | (with_reducible exact Below.refl _ _) | (with_reducible assumption) | (with_reducible refine Below.alloc ?_ ?_ _) | (with_reducible refine Below.drew ?_) | (with_reducible refine Below.setCell ?_ ?_ _) | (with_reducible refine Below.trans ?_ (Below.mono (by assumption) ?_)) | go_size)))).mono ?_; rintro e wC ⟨gc, vA, vB, cA, cB, rfl, hgc, hGC, _, _, hBC⟩; have lgc := blk_lt hGC; (try simp only [World.size_alloc, World.size_setCell, World.size_drew] at hgc); have kC := ints_cell hGC hlr; clear hGC; have hBC1 : Below W1.heap.size W1 wC := (by (repeat' (first | (with_reducible exact Below.refl _ _) | (with_reducible assumption) | (with_reducible refine Below.alloc ?_ ?_ _) | (with_reducible refine Below.drew ?_) | (with_reducible refine Below.setCell ?_ ?_ _) | (with_reducible refine Below.trans ?_ (Below.mono (by assumption) ?_)) | go_size))); have hzC := hBC.size; (try simp only [World.size_alloc, World.size_setCell, World.size_drew] at hzC); obtain ⟨hcC, hfC⟩ := bcell hBC; have hyC := hBC1.size; (try have hs3 : W1.heap.size < wC.heap.size := by omega); (try have hs4 : W1.heap.size + 1 < wC.heap.size := by omega); (try have hs5 : wA.heap.size < wC.heap.size := by omega); (try have hs6 : wA.heap.size + 1 < wC.heap.size := by omega); have r0C := (hBC1.cell (p := ⟨RR, 0, none⟩) lR).trans q0; have r1C := (hBC1.cell (p := ⟨RR, 1, none⟩) lR).trans q1; have kA' : ∀ i, i < fs.length → wC.cell? ⟨ga, i, none⟩ = some (.int .i64 (ag (wordsP fs).2 i)) := (fun i hi => (hcC _ _ (by (try simp only [World.size_alloc, World.size_setCell, World.size_drew]); omega)).trans (by first | exact kA i hi | exact alloc_keep (kA i hi) | exact alloc_keep (alloc_keep (kA i hi)))); have lga' : ga < wC.heap.size := by omega))
    all_goals (go_wp2_with fail; go_meet)
    all_goals refine ⟨_, _, ga, gc, rfl, rfl, ?_⟩
    all_goals refine ⟨by (repeat' (first | (with_reducible exact Below.refl _ _) | (with_reducible assumption) | (with_reducible refine Below.alloc ?_ ?_ _) | (with_reducible refine Below.drew ?_) | (with_reducible refine Below.setCell ?_ ?_ _) | (with_reducible refine Below.trans ?_ (Below.mono (by assumption) ?_)) | go_size)), by go_size, by go_size, by go_size, by go_size, ?_, ?_, ?_, ?_, ?_, fun i hi => ?_, fun i hi => ?_⟩
    all_goals (try ((repeat' (first | (with_reducible exact kA' i hi) | (with_reducible exact kC i hi) | (with_reducible refine alloc_keep ?_) | (with_reducible refine drew_keep ?_) | (with_reducible refine sc_keep ?_ ?_) | (dsimp only; omega))); done))
    all_goals (try (simp [*]; done))
    all_goals (try (go_simp; done))
    all_goals (try ((repeat' (first | (with_reducible refine sc_same ?_) | (with_reducible refine sc_any ?_) | (refine sc_off (by simp; done) ?_) | (with_reducible refine sc_keep ?_ ?_) | (dsimp only; omega) | (go_simp; done))); done))
  obtain ⟨X, Y, gx, gy, rfl, rfl, hT⟩ := hcut
  rename World => W2
  have HT := Lib.hid hT
  have hb12 := hT.below
  have hR2 := blk_below hR1 hT.below lR
  have lR2 := blk_lt hR2
  clear hT q0 q1 HC1 HC2 hlb
  have q1 : W2.cell? ⟨RR, 1, none⟩ = some (.slice (some ⟨b, 0, none⟩) fs.length c) := by rw [blk_cell hR2]; rfl
  have hBW2 := hB0.trans (hb12.mono hz0)
  have hzW2 := hBW2.size
  have HR2 := Lib.hid hR2
  clear hR2 hR1
  go_wp2_with fail
  go_loopw [8, 29] (fun v8 v29 wr => ∃ k : Nat, k ≤ fs.length ∧ v29 = .int .i64 k ∧ Below W2.heap.size W2 wr ∧ wr.ownsRow W2.heap.size 4 1 v8 k ((List.range k).map fun j => .bool (mbit m j))) (fun _ v29 _ => fs.length - (intOf v29).toNat)
  case atStart => exact ⟨0, by omega, rfl, Below.refl _ _, World.ownsRow_nil _ _ _ _⟩
  case round =>
    obtain ⟨k, hk, rfl, hJ, hown⟩ := hrel
    rename World => wr
    have hz1 := hJ.size
    by_cases hkn : k < fs.length
    · have hkI : (k : Int) < (fs.length : Int) := by omega
      have cm : wr.cell? ⟨mb, 0, none⟩ = some (.int .u32 m) := by rw [(hBW2.trans (hJ.mono hzW2)).cell (p := ⟨mb, 0, none⟩) hmb]; exact hmc
      have hlm : mb < wr.heap.size := by omega
      clear q1
      go_wp2_with (at_builtin; refine wpList_append_lies _ rfl _ _ 59 rfl W2.heap.size 4 ib (.bool false) 1 1 Try.underlying59 hib hzb0 hzb1 hzb2 rfl (by decide) _ _ _ rfl (hown.alloc _) ⟨wr.heap.size, 0, none⟩ 1 1 [.bool (mbit m k)] rfl rfl (cell_one_new _ _ _) (by simp [Value.oneCell']) (by decide) (by unfold maxLen; omega) (by omega) (by simp; omega) _ rfl ?_)
      intro g cap w2 hown2 hgr2 hat2 hlt2
      have hB2 : Below W2.heap.size W2 w2 := Below.grown (hJ.alloc (by omega) _) hgr2 (by simp; omega) (fun k e => (hown.lt k e).1)
      clear cm
      go_wp2_with fail
      go_roundw
      case rel =>
        refine ⟨k + 1, by omega, by go_num, hB2, ?_⟩
        rw [List.range_succ, List.map_append]
        exact hown2
      case measure => simp [intOf]; omega
    · obtain rfl : k = fs.length := by omega
      obtain ⟨A, cA, rfl, hBA⟩ := bools_of_owned (mbit m) hown
      have hml := mbits_len m fs.length
      obtain ⟨th, hth⟩ : ∃ x, x = mbits m fs.length := ⟨_, rfl⟩
      have hBA' : BoolsAt wr A th := by rw [hth]; exact hBA
      rw [← hth] at hml
      have hc1 := fun W h1 h2 h3 => layoutTabled_calls nm b 0 c fs hn A cA th W h1 h2 h3 (by omega)
      rw [hml] at hc1
      have HC1 := Lib.hid hc1
      have hR3 := blk_below HR2.out hJ lR2
      have lR3 := blk_lt hR3
      have hbW : Below W.heap.size W wr := hBW2.trans (hJ.mono hzW2)
      have hlb : b < wr.heap.size := by have := hbW.size; omega
      have hfr := hf.below hbW hb
      have p0 : wr.cell? ⟨RR, 0, none⟩ = some (.string nm) := by rw [blk_cell hR3]; rfl
      have p1 : wr.cell? ⟨RR, 1, none⟩ = some (.slice (some ⟨b, 0, none⟩) fs.length c) := by rw [blk_cell hR3]; rfl
      have HTW := Lib.hid (HT.out.later hJ)
      have HML := Lib.hid hml
      have HBA := Lib.hid hBA'
      have HFRr := Lib.hid hfr
      have hbd := tOut_bd fs th hn 4
      clear hown hBA hc1 hth hml hBA' q1 
      go_wp2_with fail
      refine (HC1.out wr hlb HFRr.out HBA.out).mono ?_
      rintro e w9 ⟨gz, rfl, hgz, hGz, hB9⟩
      have hz9 := hB9.size
      have hR4 := blk_below hR3 hB9 lR3
      obtain ⟨W9, hW9⟩ : ∃ x, x = w9.alloc (Obj.cells #[.slice (some ⟨gz, 0, none⟩) fs.length fs.length, .int .i64 (tOut fs th 4).size, .int .i64 (tOut fs th 4).align] 67) := ⟨_, rfl⟩
      obtain ⟨Z, hZe⟩ : ∃ Z, Z = w9.heap.size := ⟨_, rfl⟩
      have hZ : W9.heap[Z]? = some (.cells #[.slice (some ⟨gz, 0, none⟩) fs.length fs.length, .int .i64 (tOut fs th 4).size, .int .i64 (tOut fs th 4).align] 67 (0, 0)) := by rw [hW9, hZe]; exact blk_new _ _
      have hb9 : Below w9.heap.size w9 W9 := by rw [hW9]; exact below1 _ _
      have hbr9 : Below wr.heap.size wr W9 := hB9.trans (hb9.mono hz9)
      have hGz9 := blk_below hGz hb9 (blk_lt hGz)
      have hN : NineAt W1 fs th X Y Z gx gy gz RR b c nm A W9 := by
        refine ⟨HTW.out.later hbr9, blk_lt hZ, blk_lt hGz9, Nat.lt_of_lt_of_le lR3 hbr9.size, Nat.lt_of_lt_of_le hlb hbr9.size, by rw [blk_cell hZ]; rfl, by rw [blk_cell hZ]; rfl, ints_cell hGz9 hbd.2.2, ?_, FieldsAt.below HFRr.out hbr9 hlb, HBA.out.below hbr9⟩
        rw [hbr9.cell (p := ⟨RR, 1, none⟩) lR3]; exact p1
      have HN := Lib.hid hN
      have HBW9 := Lib.hid (hbW.trans (hbr9.mono hbW.size))
      go_upto_region 9 with (fail)
      rw [← hW9, ← hZe]
      have hT9 := hN.two
      have hwo := wOut_bd fs 5
      have hwl := wOut_le fs hn 5
      have hpb := pIn_bd fs (0, (wOut fs 5).2) fs.length
      have hrb := rowsOf_bd fs fs.length
      obtain ⟨wn, hwn, hwn2⟩ : ∃ wn : Nat, wordsN fs = (wn : Int) ∧ wn ≤ 100 := ⟨(wordsN fs).toNat, by unfold wordsN; omega, by unfold wordsN; omega⟩
      obtain ⟨pn, hpn, hpn2⟩ : ∃ pn : Nat, (wordsP fs).1 = (pn : Int) ∧ pn ≤ 16 := ⟨(wordsP fs).1.toNat, by unfold wordsP; omega, by unfold wordsP; omega⟩
      obtain ⟨rn, hrn, hrn2⟩ : ∃ rn : Nat, (rowsOf fs fs.length).size = (rn : Int) ∧ rn ≤ 128 := ⟨(rowsOf fs fs.length).size.toNat, by omega, by omega⟩
      obtain ⟨tn, htn, htn2⟩ : ∃ tn : Nat, (tOut fs th 4).size = (tn : Int) ∧ tn ≤ 1000 := ⟨(tOut fs th 4).size.toNat, by omega, by omega⟩
      have x0 := hT9.x0
      have x1 := hT9.x1
      have y0 := hT9.y0
      have z1 := hN.z1
      rw [hwn] at x0
      rw [hpn] at x1
      rw [hrn] at y0
      rw [htn] at z1
      have lx := hT9.lx
      have ly := hT9.ly
      have lz := hN.lz
      have hinf : (Try.prog.info? 4).map (fun i => (i.zero, i.size, i.bytes)) = some (some (.bool false), 1, 1) := info_bool
      have m1 : ∀ w : World, (Instr.makeSlice 59 (.int .i64 (64 * (wn : Int))) (.int .i64 (64 * (wn : Int)))).run Try.prog w = .ok (.slice (some ⟨w.heap.size, 0, none⟩) (64 * wn) (64 * wn)) (w.alloc (.cells (madeCells #[.bool false] (64 * wn)) 4)) := fun w => by
        have h := run_make_row' (P := Try.prog) 59 4 (.bool false) 1 Try.underlying59 hinf rfl .i64 .i64 (64 * wn) (by omega) (by omega) w
        rw [show ((64 * wn : Nat) : Int) = 64 * (wn : Int) by omega] at h
        exact h
      have m2 : ∀ w : World, (Instr.makeSlice 59 (.int .i64 (tn : Int)) (.int .i64 (tn : Int))).run Try.prog w = .ok (.slice (some ⟨w.heap.size, 0, none⟩) tn tn) (w.alloc (.cells (madeCells #[.bool false] tn) 4)) := fun w => run_make_row' (P := Try.prog) 59 4 (.bool false) 1 Try.underlying59 hinf rfl .i64 .i64 tn (by omega) (by omega) w
      have m3 : ∀ w : World, (Instr.makeSlice 59 (.int .i64 (rn : Int)) (.int .i64 (rn : Int))).run Try.prog w = .ok (.slice (some ⟨w.heap.size, 0, none⟩) rn rn) (w.alloc (.cells (madeCells #[.bool false] rn) 4)) := fun w => run_make_row' (P := Try.prog) 59 4 (.bool false) 1 Try.underlying59 hinf rfl .i64 .i64 rn (by omega) (by omega) w
      have m4 : ∀ w : World, (Instr.makeSlice 59 (.int .i64 (pn : Int)) (.int .i64 (pn : Int))).run Try.prog w = .ok (.slice (some ⟨w.heap.size, 0, none⟩) pn pn) (w.alloc (.cells (madeCells #[.bool false] pn) 4)) := fun w => run_make_row' (P := Try.prog) 59 4 (.bool false) 1 Try.underlying59 hinf rfl .i64 .i64 pn (by omega) (by omega) w
      have e64 : IntKind.i64.wrap (64 * (wn : Int)) = 64 * (wn : Int) := IntWalk.i64_in _ (by omega)
      have HNUM := Lib.hid (And.intro hwn (And.intro hpn (And.intro hrn htn)))
      clear hN hT9 hwo hwl hpb hrb hbd hR4 hR3 hGz hGz9 hZ hW9 hZe hb9 hbr9 hwn hpn hrn htn hinf hB9 hgz p0 p1 hfr hbW
      go_cut [11, 12, 13, 14] (fun v11 v12 v13 v14 wr => ∃ B1 B2 B3 B4, v11 = .slice (some ⟨B1, 0, none⟩) (64 * wn) (64 * wn) ∧ v12 = .slice (some ⟨B2, 0, none⟩) tn tn ∧ v13 = .slice (some ⟨B3, 0, none⟩) rn rn ∧ v14 = .slice (some ⟨B4, 0, none⟩) pn pn ∧ FourAt W9 B1 B2 B3 B4 (64 * wn) tn rn pn (fun _ => false) (fun _ => false) (fun _ => false) (fun _ => false) wr)
      case first =>
        as_aux_lemma =>
          rename_i J K' hJ hK
          have hk2 := fun a w h => hK a w (Met.intro (hJ a w h))
          simp (config := { maxSteps := 10000000 }) only [forall_exists_index, and_imp] at hk2
          have HK := Lib.hid hk2
          clear hk2
          go_region_held3 (fun w' => w'.cell? ⟨X, 0, none⟩ = some (.int .i64 (wn : Int)) ∧ w'.cell? ⟨X, 1, none⟩ = some (.int .i64 (pn : Int)) ∧ w'.cell? ⟨Y, 0, none⟩ = some (.int .i64 (rn : Int)) ∧ w'.cell? ⟨Z, 1, none⟩ = some (.int .i64 (tn : Int))) (((try go_split_ands); refine ⟨?_, ?_, ?_, ?_⟩ <;> (repeat' (first | (with_reducible assumption) | (with_reducible refine alloc_keep ?_) | (with_reducible refine drew_keep ?_))))) (fail)
          all_goals clear e64 m1 m2 m3 m4
          all_goals (apply HK.out <;> first | exact rfl | skip)
          all_goals refine ⟨(four_below _ _ _ _ _).drew, by (first | exact sle0 _ | exact sle1 _ | exact sle2 _ | exact sle3 _), by (first | exact sle0 _ | exact sle1 _ | exact sle2 _ | exact sle3 _), by (first | exact sle0 _ | exact sle1 _ | exact sle2 _ | exact sle3 _), by (first | exact sle0 _ | exact sle1 _ | exact sle2 _ | exact sle3 _), ?_, ?_, ?_, ?_, by (first | exact sne01 _ | exact sne02 _ | exact sne03 _ | exact sne10 _ | exact sne12 _ | exact sne13 _ | exact sne20 _ | exact sne21 _ | exact sne23 _ | exact sne30 _ | exact sne31 _ | exact sne32 _), by (first | exact sne01 _ | exact sne02 _ | exact sne03 _ | exact sne10 _ | exact sne12 _ | exact sne13 _ | exact sne20 _ | exact sne21 _ | exact sne23 _ | exact sne30 _ | exact sne31 _ | exact sne32 _), by (first | exact sne01 _ | exact sne02 _ | exact sne03 _ | exact sne10 _ | exact sne12 _ | exact sne13 _ | exact sne20 _ | exact sne21 _ | exact sne23 _ | exact sne30 _ | exact sne31 _ | exact sne32 _), by (first | exact sne01 _ | exact sne02 _ | exact sne03 _ | exact sne10 _ | exact sne12 _ | exact sne13 _ | exact sne20 _ | exact sne21 _ | exact sne23 _ | exact sne30 _ | exact sne31 _ | exact sne32 _), by (first | exact sne01 _ | exact sne02 _ | exact sne03 _ | exact sne10 _ | exact sne12 _ | exact sne13 _ | exact sne20 _ | exact sne21 _ | exact sne23 _ | exact sne30 _ | exact sne31 _ | exact sne32 _), by (first | exact sne01 _ | exact sne02 _ | exact sne03 _ | exact sne10 _ | exact sne12 _ | exact sne13 _ | exact sne20 _ | exact sne21 _ | exact sne23 _ | exact sne30 _ | exact sne31 _ | exact sne32 _)⟩
          all_goals rw [rowB_made]
          all_goals (first | exact four1 _ _ _ _ _ | exact four2 _ _ _ _ _ | exact four3 _ _ _ _ _ | exact four4 _ _ _ _ _)
      obtain ⟨B1, B2, B3, B4, rfl, rfl, rfl, rfl, hF⟩ := hcut
      rename World => w10
      obtain ⟨hwn, hpn, hrn, htn⟩ := HNUM.out
      obtain ⟨L1, L4, C4, _⟩ := words_apart fs
      obtain ⟨L3, C3, _⟩ := rows_apart fs fs.length (Nat.le_refl _)
      have L2 := tables_apart fs th
      rw [hwn] at L1
      rw [hpn] at L4 C4
      rw [hrn] at L3 C3
      rw [htn] at L2
      rw [show 64 * (wn : Int) = ((64 * wn : Nat) : Int) by omega] at L1
      have L1' : Lay True (bitsF fs) (sN fs) (wordsP fs).2 0 ((64 * wn : Nat) : Int) := L1
      have L2' : Lay True (sizeF fs) (sT fs th) (tOut fs th 4).at_ 4 (tn : Int) := L2
      have L3' : Lay False (sizeF fs) (sN fs) (rowsOf fs fs.length).at_ 0 (rn : Int) := L3
      have L4' : Lay False (fun _ => 1) (sP fs) (wordsP fs).2 0 (pn : Int) := L4
      have HL1 := Lib.hid L1'
      have HL2 := Lib.hid L2'
      have HL3 := Lib.hid L3'
      have HL4 := Lib.hid L4'
      have HC3 : Hid (Cov (sizeF fs) (sN fs) (rowsOf fs fs.length).at_ (rn : Int)) := Lib.hid C3
      have HC4 : Hid (Cov (fun _ => 1) (sP fs) (wordsP fs).2 (pn : Int)) := Lib.hid C4
      have hF0 : FourAt W9 B1 B2 B3 B4 (64 * wn) tn rn pn (took (bitsF fs) (sN fs) (wordsP fs).2 0) (took (sizeF fs) (sT fs th) (tOut fs th 4).at_ 0) (took (sizeF fs) (sN fs) (rowsOf fs fs.length).at_ 0) (took (fun _ => 1) (sP fs) (wordsP fs).2 0) w10 := by
        have e : ∀ (len : Nat → Int) (S : Nat → Prop) [DecidablePred S] (a : List Int), took len S a 0 = fun _ => false := fun len S _ a => funext fun x => took_zero len S a x
        rw [e, e, e, e]; exact hF
      have HF0 := Lib.hid hF0
      have hN10 := HN.out.later hF.below
      have r1 := hN10.r1
      have lr := hN10.lr
      clear hF hF0 L1 L1' L2 L2' L3 L3' L4 L4' C3 C4 hwn hpn hrn htn m1 m2 m3 m4 e64 x0 x1 y0 z1 lx ly lz hN10
      go_wp2_with fail
      go_loopw [60] (fun v60 wk => ∃ k : Nat, k ≤ fs.length ∧ v60 = .int .i64 (k : Int) ∧ Hid (FourAt W9 B1 B2 B3 B4 (64 * wn) tn rn pn (took (bitsF fs) (sN fs) (wordsP fs).2 k) (took (sizeF fs) (sT fs th) (tOut fs th 4).at_ k) (took (sizeF fs) (sN fs) (rowsOf fs fs.length).at_ k) (took (fun _ => 1) (sP fs) (wordsP fs).2 k) wk)) (fun v60 _ => fs.length - (intOf v60).toNat)
      case atStart => exact ⟨0, by omega, rfl, HF0.out⟩
      case round =>
        clear r1 lr hk hkn
        obtain ⟨k, hk, rfl, hFk⟩ := hrel
        rename World => wk
        have hNk := HN.out.later hFk.out.below
        by_cases hkn : k < fs.length
        · have hkI : (k : Int) < (fs.length : Int) := by omega
          obtain ⟨q0, q1, q2, q3, q4⟩ := hNk.fr k hkn
          rw [Nat.zero_add] at q0 q1 q2 q3 q4
          obtain ⟨f, hfe⟩ : ∃ f, f = fget fs k := ⟨_, rfl⟩
          rw [← hfe] at q0 q1 q2 q3 q4
          obtain ⟨fn, kd, rf, ls, df⟩ := f
          simp only at q0 q1 q2 q3 q4
          have lbk := hNk.lb
          have HFE := Lib.hid hfe
          have HNk := Lib.hid hNk
          obtain ⟨F, hFb⟩ : ∃ F, F = wk.heap.size := ⟨_, rfl⟩
          obtain ⟨wf, hwf⟩ : ∃ wf, wf = wk.alloc (Obj.cells #[.string fn, .int .u8 kd, .int .i64 rf, .int .i64 ls, .int .u64 df] 64) := ⟨_, rfl⟩
          have hFO : wf.heap[F]? = some (.cells #[.string fn, .int .u8 kd, .int .i64 rf, .int .i64 ls, .int .u64 df] 64 (0, 0)) := by rw [hwf, hFb]; exact blk_new _ _
          have hbf : Below wk.heap.size wk wf := by rw [hwf]; exact below1 _ _
          have HFO := Lib.hid hFO
          have HFw := Lib.hid (hFk.out.run hbf)
          have f0 : wf.cell? ⟨F, 0, none⟩ = _ := (blk_cell hFO 0).trans rfl
          have f1 : wf.cell? ⟨F, 1, none⟩ = _ := (blk_cell hFO 1).trans rfl
          have f2 : wf.cell? ⟨F, 2, none⟩ = _ := (blk_cell hFO 2).trans rfl
          have f3 : wf.cell? ⟨F, 3, none⟩ = _ := (blk_cell hFO 3).trans rfl
          have f4 : wf.cell? ⟨F, 4, none⟩ = _ := (blk_cell hFO 4).trans rfl
          have lF := blk_lt hFO
          have hcB := fun W => layoutBits_calls kd W
          have LFB1 : Hid (B1 < F) := Lib.hid (by rw [hFb]; exact blk_lt hFk.out.r1)
          have LFB2 : Hid (B2 < F) := Lib.hid (by rw [hFb]; exact blk_lt hFk.out.r2)
          have LFB3 : Hid (B3 < F) := Lib.hid (by rw [hFb]; exact blk_lt hFk.out.r3)
          have LFB4 : Hid (B4 < F) := Lib.hid (by rw [hFb]; exact blk_lt hFk.out.r4)
          clear hfe hNk hFO hbf
          go_upto_region 14 with (fail)
          rw [← hwf, ← hFb]
          clear hwf hFb q0 q1 q2 q3 q4 lbk
          have HFd := Lib.hid (HFw.out.run (Below.drew (Below.refl _ _)))
          have hNf := HN.out.later HFw.out.below
          have b2 := hNf.two.x2
          have b3 := hNf.two.gx k hkn
          have b4 := hNf.two.y1
          have b5 := hNf.two.gy k hkn
          have lx := hNf.two.lx
          have ly := hNf.two.ly
          have lgx := hNf.two.lgx
          have lgy := hNf.two.lgy
          have hb64 := kindBits_bd kd
          have hks := kindSize_bd kd
          clear hNf
          go_upto_region 15 with (first | (go_at_call 15; refine (hcB _).mono ?_; rintro e w' ⟨rfl, rfl⟩))
          go_cut [19] (fun v19 wr => v19 = .bool (isNumB kd ls) ∧ wr = wf)
          case first =>
            by_cases hl0 : ls = 0
            · have hld : decide (ls = 0) = true := decide_eq_true hl0
              by_cases hkb : 0 < kindBits kd
              · have hkd : decide (0 < kindBits kd) = true := decide_eq_true hkb
                go_wp2_with fail
                go_meet
                case rel => exact ⟨by rw [num_iff, hld, hkd]; rfl, rfl⟩
              · have hkd : decide (0 < kindBits kd) = false := decide_eq_false hkb
                go_wp2_with fail
                go_meet
                case rel => exact ⟨by rw [num_iff, hld, hkd]; rfl, rfl⟩
            · have hld : decide (ls = 0) = false := decide_eq_false hl0
              go_wp2_with fail
              go_meet
              case rel => exact ⟨by rw [num_iff, hld]; rfl, rfl⟩
          obtain ⟨rfl, hwr⟩ := hcut
          rename World => wz
          obtain rfl := hwr.symm
          clear hwr
          go_upto_region 16 with (fail)
          obtain ⟨fo, hfo⟩ : ∃ fo : Obj, fo = .cells #[.string fn, .int .u8 kd, .int .i64 rf, .int .i64 ls, .int .u64 df] 64 (0, 0) := ⟨_, rfl⟩
          have c2 : ∀ X' : CW W9 F fo, X'.val.cell? ⟨X, 2, none⟩ = some (.slice (some ⟨gx, 0, none⟩) fs.length fs.length) := fun X' => (HN.out.later X'.below).two.x2
          have c4 : ∀ X' : CW W9 F fo, X'.val.cell? ⟨Y, 1, none⟩ = some (.slice (some ⟨gy, 0, none⟩) fs.length fs.length) := fun X' => (HN.out.later X'.below).two.y1
          have g0 : ∀ X' : CW W9 F fo, X'.val.cell? ⟨F, 0, none⟩ = some (.string fn) := fun X' => (blk_cell (X'.fld.trans (congrArg some hfo)) 0).trans rfl
          have g1 : ∀ X' : CW W9 F fo, X'.val.cell? ⟨F, 1, none⟩ = some (.int .u8 kd) := fun X' => (blk_cell (X'.fld.trans (congrArg some hfo)) 1).trans rfl
          have g2 : ∀ X' : CW W9 F fo, X'.val.cell? ⟨F, 2, none⟩ = some (.int .i64 rf) := fun X' => (blk_cell (X'.fld.trans (congrArg some hfo)) 2).trans rfl
          have g3 : ∀ X' : CW W9 F fo, X'.val.cell? ⟨F, 3, none⟩ = some (.int .i64 ls) := fun X' => (blk_cell (X'.fld.trans (congrArg some hfo)) 3).trans rfl
          have g4 : ∀ X' : CW W9 F fo, X'.val.cell? ⟨F, 4, none⟩ = some (.int .u64 df) := fun X' => (blk_cell (X'.fld.trans (congrArg some hfo)) 4).trans rfl
          have HFOo : Hid (wf.heap[F]? = some fo) := Lib.hid (by rw [hfo]; exact HFO.out)
          have HCWN : Nonempty (CW W9 F fo) := ⟨⟨wf, HFw.out.below, HFOo.out⟩⟩
          have HFOE := Lib.hid hfo
          clear hfo b2 b4 f0 f1 f2 f3 f4
          go_cut [18, 19, 127] (fun v18 v19 v127 wr => v127 = .bool false ∧ Hid (FourAt W9 B1 B2 B3 B4 (64 * wn) tn rn pn (took (bitsF fs) (sN fs) (wordsP fs).2 (k + 1)) (took (sizeF fs) (sT fs th) (tOut fs th 4).at_ k) (took (sizeF fs) (sN fs) (rowsOf fs fs.length).at_ (k + 1)) (took (fun _ => 1) (sP fs) (wordsP fs).2 (k + 1)) wr) ∧ Hid (wr.heap[F]? = some fo))
          case first =>
            by_cases hnum : isNumB kd ls = true
            · have hl0 : ls = 0 := by rw [num_iff] at hnum; simp only [Bool.and_eq_true, decide_eq_true_eq] at hnum; exact hnum.1
              have hkb : 0 < kindBits kd := by rw [num_iff] at hnum; simp only [Bool.and_eq_true, decide_eq_true_eq] at hnum; exact hnum.2
              subst hl0
              have hS : sN fs k := ⟨hkn, by unfold numF; rw [← HFE.out]; exact hnum⟩
              have hnP : ¬ sP fs k := fun h => h.2 hS.2
              have hin0 : 0 ≤ sizeF fs k := by unfold sizeF; rw [← HFE.out]; show 0 ≤ inlineOf kd 0; unfold inlineOf; split <;> omega
              obtain ⟨p1, m1, hp1, hm1, hfit1, _⟩ := lay_nat HL1.out (by decide) hS (by unfold bitsF; rw [← HFE.out]; show 0 ≤ kindBits kd; omega)
              obtain ⟨p3, m3, hp3, hm3, hfit3, _⟩ := lay_nat HL3.out (by decide) hS hin0
              have hmul := HL1.out.mult trivial k hS
              rw [hp1, hm1] at hmul
              have hfree1 := tk_free HL1.out hS hp1 hm1
              have hfree3 := tk_free HL3.out hS hp3 hm3
              have hn1 := tk_next (len := bitsF fs) hS hp1 hm1
              have hn3 := tk_next (len := sizeF fs) hS hp3 hm3
              have hs4 := tk_skip (len := fun _ => 1) (at_ := (wordsP fs).2) hnP
              have hkm : kindBits kd = (m1 : Int) := by rw [← hm1]; unfold bitsF; rw [← HFE.out]
              have hki : inlineOf kd 0 = (m3 : Int) := by rw [← hm3]; unfold sizeF; rw [← HFE.out]
              rw [hp1] at b3
              rw [hp3] at b5
              have hm0 : ¬ ((m1 : Int) = 0) := by omega
              have hml : (m1 : Int) ≤ 64 := by omega
              have hmp : (0 : Int) < (m1 : Int) := by omega
              have hmd : decide (0 < m1) = true := decide_eq_true (by omega)
              have hmN : ¬ m1 = 0 := by omega
              have hmT : Int.tmod (p1 : Int) (m1 : Int) = 0 := by rw [Int.tmod_eq_emod_of_nonneg (by omega)]; exact hmul
              clear hmul
              have HFI := Lib.hid (And.intro hfree1 (And.intro hfree3 (And.intro hn1 (And.intro hn3 hs4))))
              have HPM := Lib.hid (And.intro hp1 (And.intro hm1 (And.intro hp3 (And.intro hm3 (And.intro hkm hki)))))
              have hp1l : (p1 : Int) ≤ 10000 := by omega
              have hp3l : (p3 : Int) ≤ 10000 := by omega
              simp only [hnum, hkm]
              have c3 : ∀ X' : CW W9 F fo, X'.val.cell? ⟨gx, k, none⟩ = some (.int .i64 (p1 : Int)) := fun X' => by rw [← HPM.out.1]; exact (HN.out.later X'.below).two.gx k hkn
              have c5 : ∀ X' : CW W9 F fo, X'.val.cell? ⟨gy, k, none⟩ = some (.int .i64 (p3 : Int)) := fun X' => by rw [← HPM.out.2.2.1]; exact (HN.out.later X'.below).two.gy k hkn
              clear b3 b5 hfree1 hfree3 hn1 hn3 hs4 hp1 hm1 hp3 hm3 hS hnP hb64 hks hin0 hkb hkm
              refine wp_region_eff [(10, .bool true), (31, .int .i64 (m3 : Int)), (32, .bool true)] (fun w' => ∃ X' : CW W9 F fo, w' = X'.val) (fun q w' => (match q with
                | 0 => FourAt W9 B1 B2 B3 B4 (64 * wn) tn rn pn (took (bitsF fs) (sN fs) (wordsP fs).2 k) (took (sizeF fs) (sT fs th) (tOut fs th 4).at_ k) (took (sizeF fs) (sN fs) (rowsOf fs fs.length).at_ k) (took (fun _ => 1) (sP fs) (wordsP fs).2 k) w'
                | 1 => FourAt W9 B1 B2 B3 B4 (64 * wn) tn rn pn (took (bitsF fs) (sN fs) (wordsP fs).2 (k + 1)) (took (sizeF fs) (sT fs th) (tOut fs th 4).at_ k) (took (sizeF fs) (sN fs) (rowsOf fs fs.length).at_ k) (took (fun _ => 1) (sP fs) (wordsP fs).2 k) w'
                | 2 => FourAt W9 B1 B2 B3 B4 (64 * wn) tn rn pn (took (bitsF fs) (sN fs) (wordsP fs).2 (k + 1)) (took (sizeF fs) (sT fs th) (tOut fs th 4).at_ k) (took (sizeF fs) (sN fs) (rowsOf fs fs.length).at_ k) (took (fun _ => 1) (sP fs) (wordsP fs).2 k) w'
                | _ => FourAt W9 B1 B2 B3 B4 (64 * wn) tn rn pn (took (bitsF fs) (sN fs) (wordsP fs).2 (k + 1)) (took (sizeF fs) (sT fs th) (tOut fs th 4).at_ k) (took (sizeF fs) (sN fs) (rowsOf fs fs.length).at_ (k + 1)) (took (fun _ => 1) (sP fs) (wordsP fs).2 (k + 1)) w') ∧ w'.heap[F]? = some fo) ?af (by as_aux_lemma => kernel_rfl) (by as_aux_lemma => kernel_rfl) ?hC ?hD0 ?hwalk ?H ?hE ?hend
              case hwalk =>
                simp only [effL, List.lookup, Nat.reduceBEq, Nat.reduceAdd]
                (repeat (go_big_quiet_step (fail)))
                refine wpQuiet_nil ?_
                rfl
              case hC =>
                intro q w' h
                rcases q with _ | _ | _ | q <;> exact ⟨⟨w', h.1.below, h.2⟩, rfl⟩
              case hD0 => exact ⟨HFw.out.run ⟨rfl, rfl, rfl, Nat.le_refl _, fun _ _ => rfl⟩, HFOo.out⟩
              case hE =>
                intro s v h
                simp only [List.mem_cons, List.not_mem_nil, or_false, Prod.mk.injEq] at h
                rcases h with h | h | h <;> rw [h.1] <;> decide
              case H =>
                refine { plain := plain_all (offs := [47]) (by as_aux_lemma => kernel_rfl) ?offs, eff := ?eff, path := ?path, inj := ?inj, find := ?find, ord := (by as_aux_lemma => kernel_rfl) }
                case offs =>
                  intro j o hj ho
                  obtain rfl : j = 47 := by simpa using hj
                  obtain rfl := Option.some.inj ho
                  exact ⟨39, true, 116, rfl, rfl, (by as_aux_lemma => kernel_rfl), fun e => absurd (show Value.bool false = .bool true from e) (by simp)⟩
                case eff =>
                  intro q s v h
                  rcases q with _ | _ | _ | q
                  · obtain ⟨rfl, rfl⟩ := Prod.mk.inj (Option.some.inj h)
                    refine ⟨rfl, _, rfl, .inr ⟨1, true, 78, rfl, rfl, (by as_aux_lemma => kernel_rfl), rfl⟩, [79, 80, 85, 86], (by as_aux_lemma => kernel_rfl), fun a w K Q' hT hD hK => ?_⟩
                    have e1 : a.tmps[79]?.getD undef = .func (.func 33) #[] #[] := by rw [← Array.getD_eq_getD_getElem?]; exact hT 79 (by simp)
                    have e2 : a.tmps[80]?.getD undef = .slice (some ⟨B1, 0, none⟩) (64 * wn) (64 * wn) := by rw [← Array.getD_eq_getD_getElem?]; exact hT 80 (by simp)
                    have e3 : a.tmps[85]?.getD undef = .int .i64 (p1 : Int) := by rw [← Array.getD_eq_getD_getElem?]; exact hT 85 (by simp)
                    have e4 : a.tmps[86]?.getD undef = .int .i64 (m1 : Int) := by rw [← Array.getD_eq_getD_getElem?]; exact hT 86 (by simp)
                    refine call_wp 33 #[.slice (some ⟨B1, 0, none⟩) (64 * wn) (64 * wn), .int .i64 (p1 : Int), .int .i64 (m1 : Int)] (by go_simp) _ _ (take1 hD.1 (by omega) p1 m1 _ hfit1 HFI.out.1) (fun w' hs => hK w' ⟨?_, ?_⟩)
                    · rw [HFI.out.2.2.1] at hs; exact hs.1
                    · rw [hs.2.2 F (blk_lt hD.2) (by have := LFB1.out; omega)]; exact hD.2
                  · obtain ⟨rfl, rfl⟩ := Prod.mk.inj (Option.some.inj h)
                    refine ⟨rfl, _, rfl, .inr ⟨22, false, 99, rfl, rfl, (by as_aux_lemma => kernel_rfl), rfl⟩, [107], (by as_aux_lemma => kernel_rfl), fun a w K Q' hT hD hK => ?_⟩
                    have e1 : a.tmps[107]?.getD undef = .agg #[.string fn, .int .u8 kd, .int .i64 rf, .int .i64 0, .int .u64 df] := by rw [← Array.getD_eq_getD_getElem?]; exact hT 107 (by simp)
                    refine call_wp 28 #[.agg #[.string fn, .int .u8 kd, .int .i64 rf, .int .i64 0, .int .u64 df]] (by go_simp) _ (fun w' => Below w.heap.size w w') (by rw [← HPM.out.2.2.2.2.2]; exact layoutInline_calls fn kd rf 0 df w) (fun w' hs => hK w' ⟨?_, ?_⟩)
                    · exact FourAt.run hD.1 hs
                    · exact blk_below hD.2 hs (blk_lt hD.2)
                  · obtain ⟨rfl, rfl⟩ := Prod.mk.inj (Option.some.inj h)
                    refine ⟨rfl, _, rfl, .inr ⟨22, false, 99, rfl, rfl, (by as_aux_lemma => kernel_rfl), rfl⟩, [100, 101, 106, 108], (by as_aux_lemma => kernel_rfl), fun a w K Q' hT hD hK => ?_⟩
                    have e1 : a.tmps[100]?.getD undef = .func (.func 33) #[] #[] := by rw [← Array.getD_eq_getD_getElem?]; exact hT 100 (by simp)
                    have e2 : a.tmps[101]?.getD undef = .slice (some ⟨B3, 0, none⟩) rn rn := by rw [← Array.getD_eq_getD_getElem?]; exact hT 101 (by simp)
                    have e3 : a.tmps[106]?.getD undef = .int .i64 (p3 : Int) := by rw [← Array.getD_eq_getD_getElem?]; exact hT 106 (by simp)
                    have e4 : a.tmps[108]?.getD undef = .int .i64 (m3 : Int) := by rw [← Array.getD_eq_getD_getElem?]; exact hT 108 (by simp)
                    refine call_wp 33 #[.slice (some ⟨B3, 0, none⟩) rn rn, .int .i64 (p3 : Int), .int .i64 (m3 : Int)] (by go_simp) _ _ (take3 hD.1 (by omega) p3 m3 _ hfit3 HFI.out.2.1) (fun w' hs => hK w' ⟨?_, ?_⟩)
                    · rw [HFI.out.2.2.2.1, HFI.out.2.2.2.2] at hs; exact hs.1
                    · rw [hs.2.2 F (blk_lt hD.2) (by have := LFB3.out; omega)]; exact hD.2
                  · cases h
                case path =>
                  intro q s v s' v' h h'
                  rcases q with _ | _ | _ | q
                  · obtain ⟨rfl, rfl⟩ := Prod.mk.inj (Option.some.inj h)
                    obtain ⟨rfl, rfl⟩ := Prod.mk.inj (Option.some.inj h')
                    exact ⟨[22, 12, 10], by simp, (by as_aux_lemma => kernel_rfl)⟩
                  · obtain ⟨rfl, rfl⟩ := Prod.mk.inj (Option.some.inj h)
                    obtain ⟨rfl, rfl⟩ := Prod.mk.inj (Option.some.inj h')
                    exact ⟨[31], by simp, (by as_aux_lemma => kernel_rfl)⟩
                  · cases h'
                  · cases h
                case inj =>
                  intro q q' s v v' h h'
                  rcases q with _ | _ | _ | q <;> rcases q' with _ | _ | _ | q' <;> first | rfl | (cases h; done) | (cases h'; done) | (have i1 := (Prod.mk.inj (Option.some.inj h)).1; have i2 := (Prod.mk.inj (Option.some.inj h')).1; omega)
                case find =>
                  intro s v h
                  simp only [List.lookup] at h
                  by_cases h1 : s = 10
                  · subst h1; exact ⟨0, by simpa using h⟩
                  · by_cases h2 : s = 31
                    · subst h2; exact ⟨1, by simpa using h⟩
                    · by_cases h3 : s = 32
                      · subst h3; exact ⟨2, by simpa using h⟩
                      · simp only [List.lookup, beq_false_of_ne h1, beq_false_of_ne h2, beq_false_of_ne h3] at h; cases h
              intro w11 hD
              go_wp2_with fail
              go_meet
              case rel => exact ⟨rfl, hD.1, hD.2⟩
            · have hnB : isNumB kd ls = false := by simpa using hnum
              have hnN : ¬ sN fs k := fun h => hnum (by have h2 := h.2; unfold numF at h2; rw [← HFE.out] at h2; exact h2)
              have hSP : sP fs k := ⟨hkn, fun h => hnN ⟨hkn, h⟩⟩
              obtain ⟨p4, n4, hp4, hn4, hfit4, _⟩ := lay_nat HL4.out (by decide) hSP (by decide)
              obtain rfl : n4 = 1 := by have h1 : (1 : Int) = (n4 : Int) := hn4; omega
              have HF4 := Lib.hid (And.intro (tk_free HL4.out hSP hp4 hn4) (And.intro (tk_next (len := fun _ => 1) hSP hp4 hn4) (And.intro (tk_skip (len := bitsF fs) (at_ := (wordsP fs).2) hnN) (And.intro (tk_skip (len := sizeF fs) (at_ := (rowsOf fs fs.length).at_) hnN) hp4))))
              rw [hp4] at b3
              have hp4l : (p4 : Int) ≤ 10000 := by omega
              simp only [hnB]
              have c3 : ∀ X' : CW W9 F fo, X'.val.cell? ⟨gx, k, none⟩ = some (.int .i64 (p4 : Int)) := fun X' => by rw [← HF4.out.2.2.2.2]; exact (HN.out.later X'.below).two.gx k hkn
              clear b3 b5 hnN hSP hp4 hn4 hb64 hks hnum
              refine wp_region_eff [(47, .bool true)] (fun w' => ∃ X' : CW W9 F fo, w' = X'.val) (fun q w' => (match q with
                | 0 => FourAt W9 B1 B2 B3 B4 (64 * wn) tn rn pn (took (bitsF fs) (sN fs) (wordsP fs).2 k) (took (sizeF fs) (sT fs th) (tOut fs th 4).at_ k) (took (sizeF fs) (sN fs) (rowsOf fs fs.length).at_ k) (took (fun _ => 1) (sP fs) (wordsP fs).2 k) w'
                | _ => FourAt W9 B1 B2 B3 B4 (64 * wn) tn rn pn (took (bitsF fs) (sN fs) (wordsP fs).2 (k + 1)) (took (sizeF fs) (sT fs th) (tOut fs th 4).at_ k) (took (sizeF fs) (sN fs) (rowsOf fs fs.length).at_ (k + 1)) (took (fun _ => 1) (sP fs) (wordsP fs).2 (k + 1)) w') ∧ w'.heap[F]? = some fo) ?afN (by as_aux_lemma => kernel_rfl) (by as_aux_lemma => kernel_rfl) ?hCN ?hD0N ?hwalkN ?HN ?hEN ?hendN
              case hwalkN =>
                simp only [effL, List.lookup, Nat.reduceBEq, Nat.reduceAdd]
                (repeat (go_big_quiet_step (fail)))
                refine wpQuiet_nil ?_
                rfl
              case hCN =>
                intro q w' h
                rcases q with _ | q <;> exact ⟨⟨w', h.1.below, h.2⟩, rfl⟩
              case hD0N => exact ⟨HFw.out.run ⟨rfl, rfl, rfl, Nat.le_refl _, fun _ _ => rfl⟩, HFOo.out⟩
              case hEN =>
                intro s v h
                simp only [List.mem_cons, List.not_mem_nil, or_false, Prod.mk.injEq] at h
                rw [h.1]; decide
              case HN =>
                refine { plain := plain_all (offs := [10, 31, 32]) (by as_aux_lemma => kernel_rfl) ?offsN, eff := ?effN, path := ?pathN, inj := ?injN, find := ?findN, ord := (by as_aux_lemma => kernel_rfl) }
                case offsN =>
                  intro j o hj ho
                  have hj' : j = 10 ∨ j = 31 ∨ j = 32 := by simpa using hj
                  rcases hj' with rfl | rfl | rfl <;> obtain rfl := Option.some.inj ho
                  · exact ⟨1, true, 78, rfl, rfl, (by as_aux_lemma => kernel_rfl), fun e => absurd (show Value.bool false = .bool true from e) (by simp)⟩
                  · exact ⟨22, false, 99, rfl, rfl, (by as_aux_lemma => kernel_rfl), fun e => absurd (show undef = .bool false from e) (by simp [undef])⟩
                  · exact ⟨22, false, 99, rfl, rfl, (by as_aux_lemma => kernel_rfl), fun e => absurd (show undef = .bool false from e) (by simp [undef])⟩
                case effN =>
                  intro q s v h
                  rcases q with _ | q
                  · obtain ⟨rfl, rfl⟩ := Prod.mk.inj (Option.some.inj h)
                    refine ⟨rfl, _, rfl, .inr ⟨39, true, 116, rfl, rfl, (by as_aux_lemma => kernel_rfl), rfl⟩, [117, 118, 123], (by as_aux_lemma => kernel_rfl), fun a w K Q' hT hD hK => ?_⟩
                    have e1 : a.tmps[117]?.getD undef = .func (.func 33) #[] #[] := by rw [← Array.getD_eq_getD_getElem?]; exact hT 117 (by simp)
                    have e2 : a.tmps[118]?.getD undef = .slice (some ⟨B4, 0, none⟩) pn pn := by rw [← Array.getD_eq_getD_getElem?]; exact hT 118 (by simp)
                    have e3 : a.tmps[123]?.getD undef = .int .i64 (p4 : Int) := by rw [← Array.getD_eq_getD_getElem?]; exact hT 123 (by simp)
                    refine call_wp 33 #[.slice (some ⟨B4, 0, none⟩) pn pn, .int .i64 (p4 : Int), .int .i64 1] (by go_simp) _ _ (take4 hD.1 (by omega) p4 1 _ hfit4 HF4.out.1) (fun w' hs => hK w' ⟨?_, ?_⟩)
                    · rw [HF4.out.2.1, HF4.out.2.2.1, HF4.out.2.2.2.1] at hs; exact hs.1
                    · rw [hs.2.2 F (blk_lt hD.2) (by have := LFB4.out; omega)]; exact hD.2
                  · cases h
                case pathN =>
                  intro q s v s' v' h h'
                  rcases q with _ | q <;> cases h'
                case injN =>
                  intro q q' s v v' h h'
                  rcases q with _ | q <;> rcases q' with _ | q' <;> first | rfl | (cases h; done) | (cases h'; done)
                case findN =>
                  intro s v h
                  simp only [List.lookup] at h
                  by_cases h1 : s = 47
                  · subst h1; exact ⟨0, by simpa using h⟩
                  · simp only [List.lookup, beq_false_of_ne h1] at h; cases h
              intro w11 hD
              go_wp2_with fail
              go_meet
              case rel => exact ⟨rfl, hD.1, hD.2⟩
          obtain ⟨rfl, hF11, hO11⟩ := hcut
          rename World => w11
          have HF11 := Lib.hid hF11.out
          have HFO11 := Lib.hid hO11.out
          clear b3 b5 hb64 hks hF11 hO11
          have hNe := HN.out.later HF11.out.below
          obtain ⟨bA, oA, hAe, lA, hcA⟩ := hNe.bt (by rw [HML.out]; omega)
          have ca : ∀ X' : CW W9 F fo, X'.val.cell? ⟨bA, oA + k, none⟩ = some (.bool (bget th k)) := fun X' => by
            obtain ⟨b1', o1', hA1, lA1, hc1⟩ := (HN.out.later X'.below).bt (by rw [HML.out]; omega)
            have e := hAe.symm.trans hA1
            simp only [Option.some.injEq, Addr.mk.injEq, and_true] at e
            obtain ⟨rfl, rfl⟩ := e
            exact hc1 k (by rw [HML.out]; exact hkn)
          have ca0 := hcA k (by rw [HML.out]; exact hkn)
          have hth : thereB th k = bget th k := by unfold thereB; rw [decide_eq_true (by rw [HML.out]; exact hkn)]; rfl
          subst hAe
          clear hNe hcA
          by_cases hbk : bget th k = true
          · rw [hbk] at ca ca0
            have hS2 : sT fs th k := ⟨hkn, by rw [hth]; exact hbk⟩
            have hm20 : 0 < sizeF fs k := by
              obtain ⟨y, hy, he⟩ := size_ts fs k
              rw [he]
              rcases tSize_or y with e | e | e | e <;> rw [e] <;> decide
            obtain ⟨p2, m2, hp2, hm2, hfit2, h4p⟩ := lay_nat HL2.out (by decide) hS2 (by omega)
            have hmul2 := HL2.out.mult trivial k hS2
            have hki2 : inlineOf kd ls = (m2 : Int) := by rw [← hm2]; unfold sizeF; rw [← HFE.out]
            rw [hp2, hm2] at hmul2
            have hmT2 : Int.tmod (p2 : Int) (m2 : Int) = 0 := by rw [Int.tmod_eq_emod_of_nonneg (by omega)]; exact hmul2
            have hm2N : ¬ m2 = 0 := by omega
            have hm2I : ¬ ((m2 : Int) = 0) := by omega
            have hp24 : decide ((p2 : Int) < 4) = false := decide_eq_false (by omega)
            have HF2 := Lib.hid (And.intro (tk_free HL2.out hS2 hp2 hm2) (tk_next (len := sizeF fs) hS2 hp2 hm2))
            have HP2 := Lib.hid hp2
            have hp2l : (p2 : Int) ≤ 10000 := by omega
            have hm2l : (m2 : Int) ≤ 10000 := by omega
            have cz : ∀ X' : CW W9 F fo, X'.val.cell? ⟨Z, 0, none⟩ = some (.slice (some ⟨gz, 0, none⟩) fs.length fs.length) := fun X' => (HN.out.later X'.below).z0
            have cg : ∀ X' : CW W9 F fo, X'.val.cell? ⟨gz, k, none⟩ = some (.int .i64 (p2 : Int)) := fun X' => by rw [← HP2.out]; exact (HN.out.later X'.below).gz k hkn
            have HCWN2 : Nonempty (CW W9 F fo) := ⟨⟨w11, HF11.out.below, HFO11.out⟩⟩
            clear hp2 hm2 hm20 hmul2 hS2 hth hbk
            go_wp2_with fail
            refine wp_region_eff [(20, .int .i64 (m2 : Int)), (21, .bool true), (31, .int .i64 (m2 : Int))] (fun w' => ∃ X' : CW W9 F fo, w' = X'.val) (fun q w' => (match q with
              | 0 => FourAt W9 B1 B2 B3 B4 (64 * wn) tn rn pn (took (bitsF fs) (sN fs) (wordsP fs).2 (k + 1)) (took (sizeF fs) (sT fs th) (tOut fs th 4).at_ k) (took (sizeF fs) (sN fs) (rowsOf fs fs.length).at_ (k + 1)) (took (fun _ => 1) (sP fs) (wordsP fs).2 (k + 1)) w'
              | 1 => FourAt W9 B1 B2 B3 B4 (64 * wn) tn rn pn (took (bitsF fs) (sN fs) (wordsP fs).2 (k + 1)) (took (sizeF fs) (sT fs th) (tOut fs th 4).at_ k) (took (sizeF fs) (sN fs) (rowsOf fs fs.length).at_ (k + 1)) (took (fun _ => 1) (sP fs) (wordsP fs).2 (k + 1)) w'
              | _ => FourAt W9 B1 B2 B3 B4 (64 * wn) tn rn pn (took (bitsF fs) (sN fs) (wordsP fs).2 (k + 1)) (took (sizeF fs) (sT fs th) (tOut fs th 4).at_ (k + 1)) (took (sizeF fs) (sN fs) (rowsOf fs fs.length).at_ (k + 1)) (took (fun _ => 1) (sP fs) (wordsP fs).2 (k + 1)) w') ∧ w'.heap[F]? = some fo) ?afA (by as_aux_lemma => kernel_rfl) (by as_aux_lemma => kernel_rfl) ?hCA ?hD0A ?hwalkA ?HA ?hEA ?hendA
            case hwalkA =>
              simp only [effL, List.lookup, Nat.reduceBEq, Nat.reduceAdd]
              (repeat (go_big_quiet_step (fail)))
              refine wpQuiet_nil ?_
              rfl
            case hCA =>
              intro q w' h
              rcases q with _ | _ | q <;> exact ⟨⟨w', h.1.below, h.2⟩, rfl⟩
            case hD0A => exact ⟨HF11.out.run ⟨rfl, rfl, rfl, Nat.le_refl _, fun _ _ => rfl⟩, HFO11.out⟩
            case hEA =>
              intro s v h
              simp only [List.mem_cons, List.not_mem_nil, or_false, Prod.mk.injEq] at h
              rcases h with h | h | h <;> rw [h.1] <;> decide
            case HA =>
              refine { plain := plain_all (offs := []) (by as_aux_lemma => kernel_rfl) (fun j o h => by cases h), eff := ?effA, path := ?pathA, inj := ?injA, find := ?findA, ord := (by as_aux_lemma => kernel_rfl) }
              case effA =>
                intro q s v h
                rcases q with _ | _ | _ | q
                · obtain ⟨rfl, rfl⟩ := Prod.mk.inj (Option.some.inj h)
                  refine ⟨rfl, _, rfl, .inr ⟨11, false, 139, rfl, rfl, (by as_aux_lemma => kernel_rfl), rfl⟩, [147], (by as_aux_lemma => kernel_rfl), fun a w K Q' hT hD hK => ?_⟩
                  have e1 : a.tmps[147]?.getD undef = .agg #[.string fn, .int .u8 kd, .int .i64 rf, .int .i64 ls, .int .u64 df] := by rw [← Array.getD_eq_getD_getElem?]; exact hT 147 (by simp)
                  refine call_wp 28 #[.agg #[.string fn, .int .u8 kd, .int .i64 rf, .int .i64 ls, .int .u64 df]] (by go_simp) _ (fun w' => Below w.heap.size w w') (by rw [← hki2]; exact layoutInline_calls fn kd rf ls df w) (fun w' hs => hK w' ⟨?_, ?_⟩)
                  · exact FourAt.run hD.1 hs
                  · exact blk_below hD.2 hs (blk_lt hD.2)
                · obtain ⟨rfl, rfl⟩ := Prod.mk.inj (Option.some.inj h)
                  refine ⟨rfl, _, rfl, .inr ⟨11, false, 139, rfl, rfl, (by as_aux_lemma => kernel_rfl), rfl⟩, [140, 141, 146, 148], (by as_aux_lemma => kernel_rfl), fun a w K Q' hT hD hK => ?_⟩
                  have e1 : a.tmps[140]?.getD undef = .func (.func 33) #[] #[] := by rw [← Array.getD_eq_getD_getElem?]; exact hT 140 (by simp)
                  have e2 : a.tmps[141]?.getD undef = .slice (some ⟨B2, 0, none⟩) tn tn := by rw [← Array.getD_eq_getD_getElem?]; exact hT 141 (by simp)
                  have e3 : a.tmps[146]?.getD undef = .int .i64 (p2 : Int) := by rw [← Array.getD_eq_getD_getElem?]; exact hT 146 (by simp)
                  have e4 : a.tmps[148]?.getD undef = .int .i64 (m2 : Int) := by rw [← Array.getD_eq_getD_getElem?]; exact hT 148 (by simp)
                  refine call_wp 33 #[.slice (some ⟨B2, 0, none⟩) tn tn, .int .i64 (p2 : Int), .int .i64 (m2 : Int)] (by go_simp) _ _ (take2 hD.1 (by omega) p2 m2 _ hfit2 HF2.out.1) (fun w' hs => hK w' ⟨?_, ?_⟩)
                  · rw [HF2.out.2] at hs; exact hs.1
                  · rw [hs.2.2 F (blk_lt hD.2) (by have := LFB2.out; omega)]; exact hD.2
                · obtain ⟨rfl, rfl⟩ := Prod.mk.inj (Option.some.inj h)
                  refine ⟨rfl, _, rfl, .inr ⟨24, false, 152, rfl, rfl, (by as_aux_lemma => kernel_rfl), rfl⟩, [158], (by as_aux_lemma => kernel_rfl), fun a w K Q' hT hD hK => ?_⟩
                  have e1 : a.tmps[158]?.getD undef = .agg #[.string fn, .int .u8 kd, .int .i64 rf, .int .i64 ls, .int .u64 df] := by rw [← Array.getD_eq_getD_getElem?]; exact hT 158 (by simp)
                  refine call_wp 28 #[.agg #[.string fn, .int .u8 kd, .int .i64 rf, .int .i64 ls, .int .u64 df]] (by go_simp) _ (fun w' => Below w.heap.size w w') (by rw [← hki2]; exact layoutInline_calls fn kd rf ls df w) (fun w' hs => hK w' ⟨?_, ?_⟩)
                  · exact FourAt.run hD.1 hs
                  · exact blk_below hD.2 hs (blk_lt hD.2)
                · cases h
              case pathA =>
                intro q s v s' v' h h'
                rcases q with _ | _ | _ | q
                · obtain ⟨rfl, rfl⟩ := Prod.mk.inj (Option.some.inj h)
                  obtain ⟨rfl, rfl⟩ := Prod.mk.inj (Option.some.inj h')
                  exact ⟨[20], by simp, (by as_aux_lemma => kernel_rfl)⟩
                · obtain ⟨rfl, rfl⟩ := Prod.mk.inj (Option.some.inj h)
                  obtain ⟨rfl, rfl⟩ := Prod.mk.inj (Option.some.inj h')
                  exact ⟨[24, 23, 22, 21], by simp, (by as_aux_lemma => kernel_rfl)⟩
                · cases h'
                · cases h
              case injA =>
                intro q q' s v v' h h'
                rcases q with _ | _ | _ | q <;> rcases q' with _ | _ | _ | q' <;> first | rfl | (cases h; done) | (cases h'; done) | (have i1 := (Prod.mk.inj (Option.some.inj h)).1; have i2 := (Prod.mk.inj (Option.some.inj h')).1; omega)
              case findA =>
                intro s v h
                simp only [List.lookup] at h
                by_cases h1 : s = 20
                · subst h1; exact ⟨0, by simpa using h⟩
                · by_cases h2 : s = 21
                  · subst h2; exact ⟨1, by simpa using h⟩
                  · by_cases h3 : s = 31
                    · subst h3; exact ⟨2, by simpa using h⟩
                    · simp only [List.lookup, beq_false_of_ne h1, beq_false_of_ne h2, beq_false_of_ne h3] at h; cases h
            intro w12 hD
            have HF12 : Hid (FourAt W9 B1 B2 B3 B4 (64 * wn) tn rn pn (took (bitsF fs) (sN fs) (wordsP fs).2 (k + 1)) (took (sizeF fs) (sT fs th) (tOut fs th 4).at_ (k + 1)) (took (sizeF fs) (sN fs) (rowsOf fs fs.length).at_ (k + 1)) (took (fun _ => 1) (sP fs) (wordsP fs).2 (k + 1)) w12) := Lib.hid hD.1
            clear hD
            go_wp2_with fail
            go_roundw
            case rel => exact ⟨k + 1, by omega, by go_num, HF12.out⟩
            case measure => simp [intOf]; omega
          · have hbf : bget th k = false := by simpa using hbk
            rw [hbf] at ca ca0
            have hs2 := tk_skip (len := sizeF fs) (at_ := (tOut fs th 4).at_) (fun h : sT fs th k => hbk (by rw [← hth]; exact h.2))
            have HF12 : Hid (FourAt W9 B1 B2 B3 B4 (64 * wn) tn rn pn (took (bitsF fs) (sN fs) (wordsP fs).2 (k + 1)) (took (sizeF fs) (sT fs th) (tOut fs th 4).at_ (k + 1)) (took (sizeF fs) (sN fs) (rowsOf fs fs.length).at_ (k + 1)) (took (fun _ => 1) (sP fs) (wordsP fs).2 (k + 1)) w11) := Lib.hid (by rw [← hs2]; exact HF11.out)
            clear hbk hth hs2
            go_wp2_with fail
            go_quiet (fail)
            go_wp2_with fail
            go_roundw
            case rel => exact ⟨k + 1, by omega, by go_num, HF12.out.run ⟨rfl, rfl, rfl, Nat.le_refl _, fun _ _ => rfl⟩⟩
            case measure => simp [intOf]; omega
        · obtain rfl : k = fs.length := by omega
          clear hNk
          have hN3 : ∀ x, x < rn → took (sizeF fs) (sN fs) (rowsOf fs fs.length).at_ fs.length x = true := fun x hx => took_all HC3.out (fun i h => h.1) x (by omega)
          have hN4 : ∀ x, x < pn → took (fun _ => 1) (sP fs) (wordsP fs).2 fs.length x = true := fun x hx => took_all HC4.out (fun i h => h.1) x (by omega)
          have how := rowB_owns hFk.out.l3 hFk.out.r3 (by omega)
          have hnw := rowB_news hFk.out.r4
          have hno := rowB_one pn (took (fun _ => 1) (sP fs) (wordsP fs).2 fs.length)
          have hnl : ((List.range pn).map fun x => Value.bool (took (fun _ => 1) (sP fs) (wordsP fs).2 fs.length x)).length = pn * 1 := by simp
          have lW9 : W9.heap.size ≤ wk.heap.size := hFk.out.below.size
          go_wp2_with (at_builtin; refine wpList_append_own_at _ rfl _ _ 59 rfl W9.heap.size 4 ib (.bool false) 1 1 Try.underlying59 hib hzb0 hzb1 hzb2 rfl (by decide) _ _ _ rfl how ⟨B4, 0, none⟩ pn pn _ rfl hnl hnw hno (by unfold maxLen; omega) (by omega) lW9 ?_)
          intro v' wX hownX hgrX _ _
          obtain ⟨N, hNe⟩ : ∃ N, N = rn + pn := ⟨_, rfl⟩
          rw [rowB_both hNe hN3 hN4, ← hNe] at hownX
          obtain ⟨A2, cA2, rfl, hB2⟩ := bools_of_owned (fun _ => true) hownX
          have hBX : Below W9.heap.size W9 wX := hFk.out.below_grown hFk.out.l3 hgrX
          have hBWX := HBW9.out.trans (hBX.mono HBW9.out.size)
          have HBWX := Lib.hid hBWX
          have hzX := hBWX.size
          have hNl : N ≤ 200 := by omega
          clear how hnw hno hnl lW9 hownX hgrX hNe hBX hBWX hN3 hN4
          go_wp2_with fail
          go_loopw [169] (fun v169 wr => ∃ j : Nat, j ≤ N ∧ v169 = .int .i64 (j : Int) ∧ Below wX.heap.size wX wr) (fun v169 _ => N - (intOf v169).toNat)
          case atStart => exact ⟨0, by omega, rfl, Below.refl _ _⟩
          case round =>
            obtain ⟨j, hj, rfl, hJX⟩ := hrel
            rename World => wY
            by_cases hjn : j < N
            · have hjI : (j : Int) < (N : Int) := by omega
              obtain ⟨bA, oA, rfl, lA, hcA⟩ := (hB2.below hJX) (by simp; omega)
              have c1 := hcA j (by simpa using hjn)
              rw [bget_true N j hjn] at c1
              clear hcA
              go_wp2_with fail
              go_roundw
              case rel => exact ⟨j + 1, by omega, by go_num, hJX⟩
              case measure => simp [intOf]; omega
            · obtain rfl : j = N := by omega
              go_wp2_with fail
              go_ret
              exact ⟨rfl, HBWX.out.trans (hJX.mono hzX)⟩


end Go.Proofs.Ytlfpakopahmdiaa
