/-
  schema.names: a name that stands twice, too many, too few.
-/
import Derived.Test.YtgoaiokpnifhfaaMkC
import Derived.Test.YtgoaiokpnifhfaaRawSz
namespace Go.Proofs.Ytgoaiokpnifhfaa
open Go.RowKit
set_option linter.unusedVariables false
set_option linter.unusedSimpArgs false

def fltV : Option (Int × Nat) → Value
  | none => .agg #[.int .i64 0, .int .i64 0]
  | some (c, p) => .agg #[.int .i64 c, .int .i64 (p : Int)]

/-- the call's own blocks: the schema as it is written, the fault, the map, its variable -/
structure NmI (w0 : World) (S : Nat) (vR : Array Value) (n : Nat) (used : List ByteArray) (w : World) : Prop where
  below : Below w0.heap.size w0 w
  b1 : w.heap[S]? = some (.cells vR 27 (0, 0))
  b2 : w.heap[S + 1]? = some (.cells #[.int .i64 0, .int .i64 0] 30 (0, 0))
  b3 : SeenAt w (S + 1 + 1) n used
  b4 : w.heap[S + 1 + 1 + 1]? = some (.cells #[.map (some (S + 1 + 1))] 116 (0, 0))
theorem NmI.run {w0 w w' : World} {S n : Nat} {vR : Array Value} {used : List ByteArray} (h : NmI w0 S vR n used w) (hb : Below w.heap.size w w') : NmI w0 S vR n used w' :=
  ⟨h.below.trans (hb.mono h.below.size), blk_below h.b1 hb (blk_lt h.b1), blk_below h.b2 hb (blk_lt h.b2), h.b3.below hb, blk_below h.b4 hb (blk_lt h.b4)⟩
theorem NmI.seen {w0 w w' : World} {S n n' : Nat} {vR : Array Value} {used used' : List ByteArray} (h : NmI w0 S vR n used w) (hS : w0.heap.size ≤ S) (hs : SeenAt w' (S + 1 + 1) n' used') (hg : w.grownBy w' (some (S + 1 + 1))) : NmI w0 S vR n' used' w' := by
  have e : ∀ q, q < w.heap.size → q ≠ S + 1 + 1 → w'.heap[q]? = w.heap[q]? := fun q hq hn => hg.block q hq (fun e => hn (Option.some.inj e))
  exact ⟨Below.grown h.below hg h.below.size (fun k e => by cases e; omega), (e _ (blk_lt h.b1) (by omega)).trans h.b1, (e _ (blk_lt h.b2) (by omega)).trans h.b2, hs, (e _ (blk_lt h.b4) (by omega)).trans h.b4⟩
theorem dupK_take {α : Type} (l : List α) (nm : α → ByteArray) (ps : α → Nat) (k : Nat) (a : α) (ha : l[k]? = some a) : dupK l nm ps k = if (l.take k).any (fun x => eqS (nm x) (nm a)) = true then some (13, ps a) else none := by
  unfold dupK; rw [ha]

theorem nm1 (w : World) (a b c d : Obj) : ((((w.alloc a).alloc b).alloc c).alloc d).heap[w.heap.size]? = some a := blk_alloc (blk_alloc (blk_alloc (blk_new w a) _) _) _
theorem nm2 (w : World) (a b c d : Obj) : ((((w.alloc a).alloc b).alloc c).alloc d).heap[w.heap.size + 1]? = some b := by
  have := blk_new (w.alloc a) b
  rw [World.size_alloc] at this
  exact blk_alloc (blk_alloc this _) _
theorem nm3 (w : World) (a b d : Obj) : SeenAt ((((w.alloc a).alloc b).alloc (.map #[] 0)).alloc d) (w.heap.size + 1 + 1) 0 [] := by
  have := World.ownsMap_made (H := Unit) ((w.alloc a).alloc b) Try.prog 9 (plainElem Try.prog 4)
  rw [World.size_alloc, World.size_alloc] at this
  exact this.alloc d
theorem nm4 (w : World) (a b c d : Obj) : ((((w.alloc a).alloc b).alloc c).alloc d).heap[w.heap.size + 1 + 1 + 1]? = some d := by
  have := blk_new (((w.alloc a).alloc b).alloc c) d
  rw [World.size_alloc, World.size_alloc, World.size_alloc] at this
  exact this
theorem nm_below (w : World) (a b c d : Obj) : Below w.heap.size w ((((w.alloc a).alloc b).alloc c).alloc d) := ((((below1 w a).alloc (by simp) b).alloc (by simp; omega) c).alloc (by simp; omega) d)
theorem usedE_succ (r : RawD) (i : Nat) (h : i < r.enums.length) : usedE r (i + 1) = usedE r i ++ [(cx r i).name] := by
  unfold usedE
  rw [List.take_add_one, List.map_append]
  congr 1
  unfold cx
  rw [List.getElem?_eq_getElem h]; rfl
theorem usedE_all (r : RawD) : usedE r r.enums.length = usedS r 0 := by
  unfold usedE usedS
  rw [List.take_length]; simp
theorem usedS_succ (r : RawD) (i : Nat) (h : i < r.structs.length) : usedS r (i + 1) = usedS r i ++ [(rx r i).name] := by
  unfold usedS
  rw [List.take_add_one, List.map_append, List.append_assoc]
  congr 2
  unfold rx
  rw [List.getElem?_eq_getElem h]; rfl
theorem namesI_E {r : RawD} {i : Nat} {x : Int × Nat} (hi : i < r.enums.length) (hx : badE r i = some x) (hb : ∀ k, k < i → badE r k = none) : namesI r = some x := by
  unfold namesI; rw [firstBad_some hi hx hb]
theorem namesI_S {r : RawD} {i : Nat} {x : Int × Nat} (hE : ∀ k, k < r.enums.length → badE r k = none) (hi : i < r.structs.length) (hx : badS r i = some x) (hb : ∀ k, k < i → badS r k = none) : namesI r = some x := by
  unfold namesI; rw [firstBad_none.2 hE]; exact firstBad_some hi hx hb
theorem namesI_none {r : RawD} (hE : ∀ k, k < r.enums.length → badE r k = none) (hS : ∀ k, k < r.structs.length → badS r k = none) : namesI r = none := by
  unfold namesI; rw [firstBad_none.2 hE]; exact firstBad_none.2 hS
theorem headBad_taken {α : Type} {used : List ByteArray} {nm : ByteArray} {pos : Nat} {many : Bool} {l : List α} {lnm : α → ByteArray} {lps : α → Nat} (h : takenB used nm = true) : headBad used nm pos many l lnm lps = some (13, pos) := by
  unfold headBad; rw [if_pos h]
theorem headBad_many {α : Type} {used : List ByteArray} {nm : ByteArray} {pos : Nat} {many : Bool} {l : List α} {lnm : α → ByteArray} {lps : α → Nat} (h : takenB used nm = false) (hm : many = true) : headBad used nm pos many l lnm lps = some (16, pos) := by
  unfold headBad; rw [if_neg (by rw [h]; simp), if_pos hm]
theorem headBad_dup {α : Type} {used : List ByteArray} {nm : ByteArray} {pos : Nat} {many : Bool} {l : List α} {lnm : α → ByteArray} {lps : α → Nat} (h : takenB used nm = false) (hm : many = false) : headBad used nm pos many l lnm lps = dupB l lnm lps := by
  unfold headBad; rw [if_neg (by rw [h]; simp), if_neg (by rw [hm]; simp)]

set_option maxHeartbeats 4000000 in
set_option maxRecDepth 100000 in
theorem names_calls (r : RawD) (hbd : RawBd r) (hsz : RawSz r) (a1 a2 a3 : Option Addr) (c1 c2 c3 : Nat) (w : World) (h : RawRows w a1 a2 a3 r) (hcp : RawCap w a1 a2 r) :
    Calls Try.prog 49 #[.agg #[.slice a1 r.structs.length c1, .slice a2 r.enums.length c2, .slice a3 r.roots.length c3]] w fun e w' => e = .returned (fltV (namesI r)) ∧ Below w.heap.size w w' := by
  have hmm := @run_makeMap Try.prog
  have hN0 : NmI w w.heap.size #[.slice a1 r.structs.length c1, .slice a2 r.enums.length c2, .slice a3 r.roots.length c3] 0 (usedE r 0) ((((w.alloc (Obj.cells #[.slice a1 r.structs.length c1, .slice a2 r.enums.length c2, .slice a3 r.roots.length c3] 27)).alloc (Obj.cells #[.int .i64 0, .int .i64 0] 30)).alloc (.map #[] 0)).alloc (Obj.cells #[.map (some (w.heap.size + 1 + 1))] 116)) :=
    ⟨nm_below _ _ _ _ _, nm1 _ _ _ _ _, nm2 _ _ _ _ _, nm3 _ _ _ _, nm4 _ _ _ _ _⟩
  go_enter Try.func49, Try.ntmps49
  go_upto_region 3 with (fail)
  generalize ((((w.alloc (Obj.cells #[.slice a1 r.structs.length c1, .slice a2 r.enums.length c2, .slice a3 r.roots.length c3] 27)).alloc (Obj.cells #[.int .i64 0, .int .i64 0] 30)).alloc (.map #[] 0)).alloc (Obj.cells #[.map (some (w.heap.size + 1 + 1))] 116)) = W at *
  obtain ⟨S, hS⟩ : ∃ S, S = w.heap.size := ⟨_, rfl⟩
  rw [← hS] at hN0 ⊢
  have HSL : w.heap.size ≤ S := by omega
  have HS := Lib.hid HSL
  have HR := Lib.hid h
  have HC := Lib.hid hcp
  have HBD := Lib.hid hbd
  have HSZ := Lib.hid hsz
  have HN0 := Lib.hid hN0
  have r1 : W.cell? ⟨S, 1, none⟩ = some (.slice a2 r.enums.length c2) := by rw [blk_cell hN0.b1]; rfl
  have lS := blk_lt hN0.b1
  clear hmm hS HSL hN0 h hbd hsz hcp
  go_wp2_with fail
  clear r1 lS
  go_loopw [20] (fun v20 wr => ∃ i : Nat, v20 = .int .i64 (i : Int) ∧ i ≤ r.enums.length ∧ Hid (NmI w S #[.slice a1 r.structs.length c1, .slice a2 r.enums.length c2, .slice a3 r.roots.length c3] (0 + i) (usedE r i) wr) ∧ Hid (∀ k, k < i → badE r k = none)) (fun v20 _ => r.enums.length - (intOf v20).toNat)
  case atStart => exact ⟨0, rfl, by omega, HN0.out, fun k hk => absurd hk (by omega)⟩
  case round =>
    obtain ⟨i, rfl, hi, hN, hBs⟩ := hrel
    rename World => wr
    by_cases hin : i < r.enums.length
    · have hiI : (i : Int) < (r.enums.length : Int) := by omega
      have hib : (i : Int) ≤ 3000 := by have := HBD.out.e; have := HBD.out.s; omega
      have hmem := cx_mem hin
      have hnz : (cx r i).name.size ≤ maxLen := by have := (HSZ.out.e _ hmem).1; unfold maxLen; omega
      have hlen := HBD.out.n _ hmem
      obtain ⟨q, a, c', rfl, hq0, x0', x1', x2', hrow⟩ := HR.out.e i hin
      have hcap : (cx r i).names.length ≤ c' := HC.out.e i hin q a _ c' rfl x2'
      have hwr := hN.out.below.size
      have hq : q < wr.heap.size := by omega
      have x0 := cell_kept x0' hN.out.below
      have x1 := cell_kept x1' hN.out.below
      have x2 := cell_kept x2' hN.out.below
      have hEb := blk_new wr (Obj.cells #[.string (cx r i).name, .int .i64 ((cx r i).pos : Int), .slice a (cx r i).names.length c'] 97)
      have hNb := hN.out.run (below1 wr (Obj.cells #[.string (cx r i).name, .int .i64 ((cx r i).pos : Int), .slice a (cx r i).names.length c'] 97))
      obtain ⟨we, hwe⟩ : ∃ we, we = wr.alloc (Obj.cells #[.string (cx r i).name, .int .i64 ((cx r i).pos : Int), .slice a (cx r i).names.length c'] 97) := ⟨_, rfl⟩
      rw [← hwe] at hEb hNb
      obtain ⟨E, hE⟩ : ∃ E, E = wr.heap.size := ⟨_, rfl⟩
      have hEG : S + 1 + 1 < E := by
        have := hN.out.b3.lt
        omega
      have HEG := Lib.hid hEG
      rw [← hE] at hEb
      have HEb := Lib.hid hEb
      have HNb := Lib.hid hNb
      have HROW := Lib.hid hrow
      clear hEb hNb hrow hEG x0' x1' x2' hwr hmem
      go_upto_region 6 with (fail)
      rw [← hwe, ← hE]
      have y0 : we.cell? ⟨E, 0, none⟩ = some (.string (cx r i).name) := by rw [blk_cell HEb.out]; rfl
      have y1 : we.cell? ⟨E, 1, none⟩ = some (.int .i64 ((cx r i).pos : Int)) := by rw [blk_cell HEb.out]; rfl
      have lE := blk_lt HEb.out
      clear x0 x1 x2 hwe hE hq hq0
      go_wp2_with fail
      clear y0 y1 lE
      by_cases ht : takenB (usedE r i) (cx r i).name = true
      · have hbad : badE r i = some (13, (cx r i).pos) := headBad_taken ht
        have HNI := Lib.hid (namesI_E hin hbad hBs.out)
        refine (once_taken (cx r i).name (cx r i).pos (S + 1 + 1 + 1) (S + 1 + 1) _ (usedE r i) we hnz HNb.out.b4 HNb.out.b3 ht).mono ?_
        rintro e w2 ⟨rfl, hB2⟩
        have HN2 := Lib.hid (HNb.out.run hB2)
        clear hB2 hbad ht
        have f0 : w2.cell? ⟨S + 1, 0, none⟩ = some (.int .i64 0) := by rw [blk_cell HN2.out.b2]; rfl
        have f1 : w2.cell? ⟨S + 1, 1, none⟩ = some (.int .i64 0) := by rw [blk_cell HN2.out.b2]; rfl
        have ff := fun j => blk_frozen HN2.out.b2 j
        have lF := blk_lt HN2.out.b2
        go_wp2_with fail
        refine bodyPost_ret (v := .agg #[.int .i64 13, .int .i64 ((cx r i).pos : Int)]) (by simp [results, Try.results49, go_sem, *]) rfl ⟨by rw [HNI.out]; rfl, ?_⟩
        have hB := HN2.out.below
        have hS := HS.out
        (repeat' (first | (with_reducible exact Below.refl _ _) | (with_reducible assumption) | (with_reducible refine Below.alloc ?_ ?_ _) | (with_reducible refine Below.drew ?_) | (with_reducible refine Below.setCell ?_ ?_ _) | (with_reducible refine Below.trans ?_ (Below.mono (by assumption) ?_)) | go_size))
      · have ht2 : takenB (usedE r i) (cx r i).name = false := by simpa using ht
        have HT := Lib.hid ht2
        refine (once_new (cx r i).name (cx r i).pos (S + 1 + 1 + 1) (S + 1 + 1) _ (usedE r i) we hnz (by unfold maxLen; have := HBD.out.e; have := HBD.out.s; omega) HNb.out.b4 HNb.out.b3 ht2).mono ?_
        rintro e w2 ⟨rfl, hs2, hg2⟩
        have hn2 := HNb.out.seen HS.out hs2 hg2
        rw [← usedE_succ r i hin] at hn2
        have hE2 := (hg2.block E (blk_lt HEb.out) (fun e => by have := Option.some.inj e; have := HEG.out; omega)).trans HEb.out
        have hbf := below1 w2 (Obj.cells #[.int .i64 0, .int .i64 0] 30)
        have HN2 := Lib.hid (hn2.run hbf)
        have HE2 := Lib.hid (blk_below hE2 hbf (blk_lt hE2))
        obtain ⟨w3, hw3⟩ : ∃ w3, w3 = w2.alloc (Obj.cells #[.int .i64 0, .int .i64 0] 30) := ⟨_, rfl⟩
        rw [← hw3] at HN2 HE2
        clear hs2 hg2 hn2 hE2 ht ht2 hnz HNb HEb hbf
        go_upto_region 9 with (fail)
        rw [← hw3]
        clear hw3
        have f0 : w3.cell? ⟨S + 1, 0, none⟩ = some (.int .i64 0) := by rw [blk_cell HN2.out.b2]; rfl
        have f1 : w3.cell? ⟨S + 1, 1, none⟩ = some (.int .i64 0) := by rw [blk_cell HN2.out.b2]; rfl
        have ff := fun j => blk_frozen HN2.out.b2 j
        have lF := blk_lt HN2.out.b2
        have y1 : w3.cell? ⟨E, 1, none⟩ = some (.int .i64 ((cx r i).pos : Int)) := by rw [blk_cell HE2.out]; rfl
        have y2 : w3.cell? ⟨E, 2, none⟩ = some (.slice a (cx r i).names.length c') := by rw [blk_cell HE2.out]; rfl
        have lE := blk_lt HE2.out
        have hE1 : E ≠ S + 1 := by have := HEG.out; omega
        obtain ⟨nn, hnn⟩ : ∃ nn, nn = (cx r i).names.length := ⟨_, rfl⟩
        rw [← hnn] at y2 hcap hlen ⊢
        have HNN := Lib.hid hnn
        clear hnn
        by_cases h8 : 8 ≤ i
        · have d8 : decide ((8 : Int) ≤ (i : Int)) = true := decide_eq_true (by omega)
          have hmy : manyE r i = true := by unfold manyE; simp [h8]
          have hbad : badE r i = some (16, (cx r i).pos) := headBad_many HT.out hmy
          have HNI := Lib.hid (namesI_E hin hbad hBs.out)
          clear hmy hbad
          go_wp2_with fail
          refine bodyPost_ret (v := .agg #[.int .i64 16, .int .i64 ((cx r i).pos : Int)]) (by simp [results, Try.results49, go_sem, *]) rfl ⟨by rw [HNI.out]; rfl, ?_⟩
          have hB := HN2.out.below
          have hS := HS.out
          (repeat' (first | (with_reducible exact Below.refl _ _) | (with_reducible assumption) | (with_reducible refine Below.alloc ?_ ?_ _) | (with_reducible refine Below.drew ?_) | (with_reducible refine Below.setCell ?_ ?_ _) | (with_reducible refine Below.trans ?_ (Below.mono (by assumption) ?_)) | go_size))
        · have d8 : decide ((8 : Int) ≤ (i : Int)) = false := decide_eq_false (by omega)
          by_cases h0 : nn = 0
          · have d0 : ((nn : Int) == 0) = true := by rw [h0]; rfl
            have hmy : manyE r i = true := by unfold manyE; rw [← HNN.out]; simp [h0]
            have hbad : badE r i = some (16, (cx r i).pos) := headBad_many HT.out hmy
            have HNI := Lib.hid (namesI_E hin hbad hBs.out)
            clear hmy hbad
            go_wp2_with fail
            refine bodyPost_ret (v := .agg #[.int .i64 16, .int .i64 ((cx r i).pos : Int)]) (by simp [results, Try.results49, go_sem, *]) rfl ⟨by rw [HNI.out]; rfl, ?_⟩
            have hB := HN2.out.below
            have hS := HS.out
            (repeat' (first | (with_reducible exact Below.refl _ _) | (with_reducible assumption) | (with_reducible refine Below.alloc ?_ ?_ _) | (with_reducible refine Below.drew ?_) | (with_reducible refine Below.setCell ?_ ?_ _) | (with_reducible refine Below.trans ?_ (Below.mono (by assumption) ?_)) | go_size))
          · have d0 : ((nn : Int) == 0) = false := beq_false_of_ne (by omega)
            have d0' : decide ((nn : Int) = 0) = false := decide_eq_false (by omega)
            by_cases h32 : 32 < nn
            · have d32 : decide ((32 : Int) < (nn : Int)) = true := decide_eq_true (by omega)
              have hmy : manyE r i = true := by unfold manyE; rw [← HNN.out]; simp [h32]
              have hbad : badE r i = some (16, (cx r i).pos) := headBad_many HT.out hmy
              have HNI := Lib.hid (namesI_E hin hbad hBs.out)
              clear hmy hbad
              go_wp2_with fail
              refine bodyPost_ret (v := .agg #[.int .i64 16, .int .i64 ((cx r i).pos : Int)]) (by simp [results, Try.results49, go_sem, *]) rfl ⟨by rw [HNI.out]; rfl, ?_⟩
              have hB := HN2.out.below
              have hS := HS.out
              (repeat' (first | (with_reducible exact Below.refl _ _) | (with_reducible assumption) | (with_reducible refine Below.alloc ?_ ?_ _) | (with_reducible refine Below.drew ?_) | (with_reducible refine Below.setCell ?_ ?_ _) | (with_reducible refine Below.trans ?_ (Below.mono (by assumption) ?_)) | go_size))
            · have d32 : decide ((32 : Int) < (nn : Int)) = false := decide_eq_false (by omega)
              have hmf : manyE r i = false := by unfold manyE; rw [← HNN.out]; simp; omega
              have HDB := Lib.hid (headBad_dup (l := (cx r i).names) (lnm := Tok.text) (lps := Tok.pos) (pos := (cx r i).pos) HT.out hmf)
              clear f0 f1 ff lF y1 hmf hE1
              go_wp2_with fail
              clear y2 lE d8 d0 d0' d32 h8 h32
              go_loopw [55] (fun v55 wr2 => ∃ k : Nat, v55 = .int .i64 (k : Int) ∧ k ≤ nn ∧ Hid (NmI w S #[.slice a1 r.structs.length c1, .slice (some ⟨q, 0, none⟩) r.enums.length c2, .slice a3 r.roots.length c3] (0 + i + 1) (usedE r (i + 1)) wr2) ∧ Hid (wr2.heap[E]? = some (.cells #[.string (cx r i).name, .int .i64 ((cx r i).pos : Int), .slice a nn c'] 97 (0, 0))) ∧ Hid (∀ j, j < k → dupK (cx r i).names Tok.text Tok.pos j = none)) (fun v55 _ => nn - (intOf v55).toNat)
              case atStart => exact ⟨0, rfl, by omega, HN2.out, by rw [HNN.out]; exact HE2.out, fun k hk => absurd hk (by omega)⟩
              case round =>
                obtain ⟨k, rfl, hk, hN3, hE3, hD⟩ := hrel
                rename World => wr2
                by_cases hkn : k < nn
                · have hkI : (k : Int) < (nn : Int) := by omega
                  have HKN := Lib.hid hkn
                  have hkl : k < (cx r i).names.length := by rw [← HNN.out]; exact hkn
                  have hkc : (k : Int) ≤ (c' : Int) := by omega
                  obtain ⟨qq, hqa, htk⟩ := (HROW.out.below hN3.out.below) (by omega)
                  subst hqa
                  have hqq := ToksIn.lt htk (by omega)
                  obtain ⟨z0, z1, z2⟩ := htk k hkl
                  have hdk := dupK_take (cx r i).names Tok.text Tok.pos k ((cx r i).names[k]?.getD tok0) (by rw [List.getElem?_eq_getElem hkl]; rfl)
                  have HDK := Lib.hid hdk
                  obtain ⟨X, hX⟩ : ∃ X, X = (cx r i).names[k]?.getD tok0 := ⟨_, rfl⟩
                  rw [← hX] at z0 z1 z2 HDK
                  have hTb := blk_new wr2 (Obj.cells #[.int .i64 X.kind, .string X.text, .int .i64 (X.pos : Int)] 41)
                  have hbt := below1 wr2 (Obj.cells #[.int .i64 X.kind, .string X.text, .int .i64 (X.pos : Int)] 41)
                  have HN4 := Lib.hid (hN3.out.run hbt)
                  have HE4 := Lib.hid (blk_below hE3.out hbt (blk_lt hE3.out))
                  have htk4 := htk.kept (hbt.block qq hqq)
                  obtain ⟨wt, hwt⟩ : ∃ wt, wt = wr2.alloc (Obj.cells #[.int .i64 X.kind, .string X.text, .int .i64 (X.pos : Int)] 41) := ⟨_, rfl⟩
                  rw [← hwt] at hTb HN4 HE4 htk4
                  obtain ⟨Tb, hT⟩ : ∃ Tb, Tb = wr2.heap.size := ⟨_, rfl⟩
                  rw [← hT] at hTb
                  have HTb := Lib.hid hTb
                  have HTK := Lib.hid htk4
                  have hqt : qq < wt.heap.size := ToksIn.lt htk4 (by omega)
                  clear hTb hbt htk htk4 hdk hX
                  go_upto_region 14 with (fail)
                  rw [← hwt, ← hT]
                  have y2 : wt.cell? ⟨E, 2, none⟩ = some (.slice (some ⟨qq, 0, none⟩) nn c') := by rw [blk_cell HE4.out]; rfl
                  have x1 : wt.cell? ⟨Tb, 1, none⟩ = some (.string X.text) := by rw [blk_cell HTb.out]; rfl
                  have lE := blk_lt HE4.out
                  have lT := blk_lt HTb.out
                  clear z0 z1 z2 hwt hT hqq
                  go_wp2_with fail
                  refine (cfTok_calls (cx r i).names qq k c' X.text Tb wt (by omega) (by have := HBD.out.n _ (cx_mem hin); omega) hqt lT x1 HTK.out).mono ?_
                  rintro e w5 ⟨rfl, hB5⟩
                  have HN5 := Lib.hid (HN4.out.run hB5)
                  have HE5 := Lib.hid (blk_below HE4.out hB5 (blk_lt HE4.out))
                  have HT5 := Lib.hid (blk_below HTb.out hB5 (blk_lt HTb.out))
                  clear hB5 y2 x1 lE lT hqt HTb HTK HN4 HE4
                  cases hany : ((cx r i).names.take k).any (fun x => eqS x.text X.text) with
                  | true =>
                    have hdup : dupK (cx r i).names Tok.text Tok.pos k = some (13, X.pos) := by rw [HDK.out]; exact if_pos hany
                    have hbad : badE r i = some (13, X.pos) := HDB.out.trans (firstBad_some hkl hdup hD.out)
                    have HNI := Lib.hid (namesI_E hin hbad hBs.out)
                    clear hdup hbad hany
                    have f0 : w5.cell? ⟨S + 1, 0, none⟩ = some (.int .i64 0) := by rw [blk_cell HN5.out.b2]; rfl
                    have f1 : w5.cell? ⟨S + 1, 1, none⟩ = some (.int .i64 0) := by rw [blk_cell HN5.out.b2]; rfl
                    have ff := fun j => blk_frozen HN5.out.b2 j
                    have lF := blk_lt HN5.out.b2
                    have x2 : w5.cell? ⟨Tb, 2, none⟩ = some (.int .i64 (X.pos : Int)) := by rw [blk_cell HT5.out]; rfl
                    have lT := blk_lt HT5.out
                    go_wp2_with fail
                    refine bodyPost_ret (v := .agg #[.int .i64 13, .int .i64 (X.pos : Int)]) (by simp [results, Try.results49, go_sem, *]) rfl ⟨by rw [HNI.out]; rfl, ?_⟩
                    have hB := HN5.out.below
                    have hS := HS.out
                    (repeat' (first | (with_reducible exact Below.refl _ _) | (with_reducible assumption) | (with_reducible refine Below.alloc ?_ ?_ _) | (with_reducible refine Below.drew ?_) | (with_reducible refine Below.setCell ?_ ?_ _) | (with_reducible refine Below.trans ?_ (Below.mono (by assumption) ?_)) | go_size))
                  | false =>
                    have hdup : dupK (cx r i).names Tok.text Tok.pos k = none := by rw [HDK.out]; exact if_neg (by rw [hany]; simp)
                    clear hany
                    go_wp2_with fail
                    go_roundw
                    case rel => exact ⟨k + 1, by go_num, HKN.out, HN5.out, HE5.out, fun j hj => by
                      by_cases e : j = k
                      · subst e; exact hdup
                      · exact hD.out j (by omega)⟩
                    case measure => have := HKN.out; simp [intOf]; omega
                · obtain rfl : k = nn := by omega
                  go_wp2_with fail
                  go_roundw
                  case rel => exact ⟨i + 1, by go_num, by omega, by rw [← Nat.add_assoc]; exact hN3.out, fun j hj => by
                    by_cases e : j = i
                    · subst e; exact HDB.out.trans (firstBad_none.2 (by rw [← HNN.out]; exact hD.out))
                    · exact hBs.out j (by omega)⟩
                  case measure => simp [intOf]; omega
    · obtain rfl : i = r.enums.length := by omega
      have z0 : wr.cell? ⟨S, 0, none⟩ = some (.slice a1 r.structs.length c1) := by rw [blk_cell hN.out.b1]; rfl
      have z1 : wr.cell? ⟨S, 1, none⟩ = some (.slice a2 r.enums.length c2) := by rw [blk_cell hN.out.b1]; rfl
      have lz := blk_lt hN.out.b1
      have HBE := Lib.hid hBs.out
      have hn1 := hN.out
      rw [usedE_all, Nat.zero_add] at hn1
      have HN1 := Lib.hid hn1
      clear hn1 hN hBs hin hi
      go_wp2_with fail
      clear z0 z1 lz
      go_loopw [74] (fun v74 wr => ∃ i : Nat, v74 = .int .i64 (i : Int) ∧ i ≤ r.structs.length ∧ Hid (NmI w S #[.slice a1 r.structs.length c1, .slice a2 r.enums.length c2, .slice a3 r.roots.length c3] (r.enums.length + i) (usedS r i) wr) ∧ Hid (∀ k, k < i → badS r k = none)) (fun v74 _ => r.structs.length - (intOf v74).toNat)
      case atStart => exact ⟨0, rfl, by omega, HN1.out, fun k hk => absurd hk (by omega)⟩
      case round =>
        obtain ⟨i, rfl, hi, hN, hBs⟩ := hrel
        rename World => wr
        by_cases hin : i < r.structs.length
        · have hiI : (i : Int) < (r.structs.length : Int) := by omega
          have hib : (i : Int) ≤ 3000 := by have := HBD.out.e; have := HBD.out.s; omega
          have hmem := rx_mem hin
          have hnz : (rx r i).name.size ≤ maxLen := by have := (HSZ.out.s _ hmem).1; unfold maxLen; omega
          have hlen := HBD.out.f _ hmem
          obtain ⟨q, a, c', rfl, hq0, x0', x1', x2', hrow⟩ := HR.out.s i hin
          have hcap : (rx r i).fields.length ≤ c' := HC.out.s i hin q a _ c' rfl x2'
          have hwr := hN.out.below.size
          have hq : q < wr.heap.size := by omega
          have x0 := cell_kept x0' hN.out.below
          have x1 := cell_kept x1' hN.out.below
          have x2 := cell_kept x2' hN.out.below
          have hEb := blk_new wr (Obj.cells #[.string (rx r i).name, .int .i64 ((rx r i).pos : Int), .slice a (rx r i).fields.length c'] 35)
          have hNb := hN.out.run (below1 wr (Obj.cells #[.string (rx r i).name, .int .i64 ((rx r i).pos : Int), .slice a (rx r i).fields.length c'] 35))
          obtain ⟨we, hwe⟩ : ∃ we, we = wr.alloc (Obj.cells #[.string (rx r i).name, .int .i64 ((rx r i).pos : Int), .slice a (rx r i).fields.length c'] 35) := ⟨_, rfl⟩
          rw [← hwe] at hEb hNb
          obtain ⟨E, hE⟩ : ∃ E, E = wr.heap.size := ⟨_, rfl⟩
          have hEG : S + 1 + 1 < E := by
            have := hN.out.b3.lt
            omega
          have HEG := Lib.hid hEG
          rw [← hE] at hEb
          have HEb := Lib.hid hEb
          have HNb := Lib.hid hNb
          have HROW := Lib.hid hrow
          clear hEb hNb hrow hEG x0' x1' x2' hwr hmem
          go_upto_region 21 with (fail)
          rw [← hwe, ← hE]
          have y0 : we.cell? ⟨E, 0, none⟩ = some (.string (rx r i).name) := by rw [blk_cell HEb.out]; rfl
          have y1 : we.cell? ⟨E, 1, none⟩ = some (.int .i64 ((rx r i).pos : Int)) := by rw [blk_cell HEb.out]; rfl
          have lE := blk_lt HEb.out
          clear x0 x1 x2 hwe hE hq hq0
          go_wp2_with fail
          clear y0 y1 lE
          by_cases ht : takenB (usedS r i) (rx r i).name = true
          · have hbad : badS r i = some (13, (rx r i).pos) := headBad_taken ht
            have HNI := Lib.hid (namesI_S HBE.out hin hbad hBs.out)
            refine (once_taken (rx r i).name (rx r i).pos (S + 1 + 1 + 1) (S + 1 + 1) _ (usedS r i) we hnz HNb.out.b4 HNb.out.b3 ht).mono ?_
            rintro e w2 ⟨rfl, hB2⟩
            have HN2 := Lib.hid (HNb.out.run hB2)
            clear hB2 hbad ht
            have f0 : w2.cell? ⟨S + 1, 0, none⟩ = some (.int .i64 0) := by rw [blk_cell HN2.out.b2]; rfl
            have f1 : w2.cell? ⟨S + 1, 1, none⟩ = some (.int .i64 0) := by rw [blk_cell HN2.out.b2]; rfl
            have ff := fun j => blk_frozen HN2.out.b2 j
            have lF := blk_lt HN2.out.b2
            go_wp2_with fail
            refine bodyPost_ret (v := .agg #[.int .i64 13, .int .i64 ((rx r i).pos : Int)]) (by simp [results, Try.results49, go_sem, *]) rfl ⟨by rw [HNI.out]; rfl, ?_⟩
            have hB := HN2.out.below
            have hS := HS.out
            (repeat' (first | (with_reducible exact Below.refl _ _) | (with_reducible assumption) | (with_reducible refine Below.alloc ?_ ?_ _) | (with_reducible refine Below.drew ?_) | (with_reducible refine Below.setCell ?_ ?_ _) | (with_reducible refine Below.trans ?_ (Below.mono (by assumption) ?_)) | go_size))
          · have ht2 : takenB (usedS r i) (rx r i).name = false := by simpa using ht
            have HT := Lib.hid ht2
            refine (once_new (rx r i).name (rx r i).pos (S + 1 + 1 + 1) (S + 1 + 1) _ (usedS r i) we hnz (by unfold maxLen; have := HBD.out.e; have := HBD.out.s; omega) HNb.out.b4 HNb.out.b3 ht2).mono ?_
            rintro e w2 ⟨rfl, hs2, hg2⟩
            have hn2 := HNb.out.seen HS.out hs2 hg2
            rw [← usedS_succ r i hin] at hn2
            have hE2 := (hg2.block E (blk_lt HEb.out) (fun e => by have := Option.some.inj e; have := HEG.out; omega)).trans HEb.out
            have hbf := below1 w2 (Obj.cells #[.int .i64 0, .int .i64 0] 30)
            have HN2 := Lib.hid (hn2.run hbf)
            have HE2 := Lib.hid (blk_below hE2 hbf (blk_lt hE2))
            obtain ⟨w3, hw3⟩ : ∃ w3, w3 = w2.alloc (Obj.cells #[.int .i64 0, .int .i64 0] 30) := ⟨_, rfl⟩
            rw [← hw3] at HN2 HE2
            clear hs2 hg2 hn2 hE2 ht ht2 hnz HNb HEb hbf
            go_upto_region 24 with (fail)
            rw [← hw3]
            clear hw3
            have f0 : w3.cell? ⟨S + 1, 0, none⟩ = some (.int .i64 0) := by rw [blk_cell HN2.out.b2]; rfl
            have f1 : w3.cell? ⟨S + 1, 1, none⟩ = some (.int .i64 0) := by rw [blk_cell HN2.out.b2]; rfl
            have ff := fun j => blk_frozen HN2.out.b2 j
            have lF := blk_lt HN2.out.b2
            have y1 : w3.cell? ⟨E, 1, none⟩ = some (.int .i64 ((rx r i).pos : Int)) := by rw [blk_cell HE2.out]; rfl
            have y2 : w3.cell? ⟨E, 2, none⟩ = some (.slice a (rx r i).fields.length c') := by rw [blk_cell HE2.out]; rfl
            have lE := blk_lt HE2.out
            have hE1 : E ≠ S + 1 := by have := HEG.out; omega
            obtain ⟨nn, hnn⟩ : ∃ nn, nn = (rx r i).fields.length := ⟨_, rfl⟩
            rw [← hnn] at y2 hcap hlen ⊢
            have HNN := Lib.hid hnn
            clear hnn
            by_cases h8 : 16 ≤ i
            · have d8 : decide ((16 : Int) ≤ (i : Int)) = true := decide_eq_true (by omega)
              have hmy : manyS r i = true := by unfold manyS; simp [h8]
              have hbad : badS r i = some (16, (rx r i).pos) := headBad_many HT.out hmy
              have HNI := Lib.hid (namesI_S HBE.out hin hbad hBs.out)
              clear hmy hbad
              go_wp2_with fail
              refine bodyPost_ret (v := .agg #[.int .i64 16, .int .i64 ((rx r i).pos : Int)]) (by simp [results, Try.results49, go_sem, *]) rfl ⟨by rw [HNI.out]; rfl, ?_⟩
              have hB := HN2.out.below
              have hS := HS.out
              (repeat' (first | (with_reducible exact Below.refl _ _) | (with_reducible assumption) | (with_reducible refine Below.alloc ?_ ?_ _) | (with_reducible refine Below.drew ?_) | (with_reducible refine Below.setCell ?_ ?_ _) | (with_reducible refine Below.trans ?_ (Below.mono (by assumption) ?_)) | go_size))
            · have d8 : decide ((16 : Int) ≤ (i : Int)) = false := decide_eq_false (by omega)
              by_cases h0 : nn = 0
              · have d0 : ((nn : Int) == 0) = true := by rw [h0]; rfl
                have hmy : manyS r i = true := by unfold manyS; rw [← HNN.out]; simp [h0]
                have hbad : badS r i = some (16, (rx r i).pos) := headBad_many HT.out hmy
                have HNI := Lib.hid (namesI_S HBE.out hin hbad hBs.out)
                clear hmy hbad
                go_wp2_with fail
                refine bodyPost_ret (v := .agg #[.int .i64 16, .int .i64 ((rx r i).pos : Int)]) (by simp [results, Try.results49, go_sem, *]) rfl ⟨by rw [HNI.out]; rfl, ?_⟩
                have hB := HN2.out.below
                have hS := HS.out
                (repeat' (first | (with_reducible exact Below.refl _ _) | (with_reducible assumption) | (with_reducible refine Below.alloc ?_ ?_ _) | (with_reducible refine Below.drew ?_) | (with_reducible refine Below.setCell ?_ ?_ _) | (with_reducible refine Below.trans ?_ (Below.mono (by assumption) ?_)) | go_size))
              · have d0 : ((nn : Int) == 0) = false := beq_false_of_ne (by omega)
                have d0' : decide ((nn : Int) = 0) = false := decide_eq_false (by omega)
                by_cases h32 : 16 < nn
                · have d32 : decide ((16 : Int) < (nn : Int)) = true := decide_eq_true (by omega)
                  have hmy : manyS r i = true := by unfold manyS; rw [← HNN.out]; simp [h32]
                  have hbad : badS r i = some (16, (rx r i).pos) := headBad_many HT.out hmy
                  have HNI := Lib.hid (namesI_S HBE.out hin hbad hBs.out)
                  clear hmy hbad
                  go_wp2_with fail
                  refine bodyPost_ret (v := .agg #[.int .i64 16, .int .i64 ((rx r i).pos : Int)]) (by simp [results, Try.results49, go_sem, *]) rfl ⟨by rw [HNI.out]; rfl, ?_⟩
                  have hB := HN2.out.below
                  have hS := HS.out
                  (repeat' (first | (with_reducible exact Below.refl _ _) | (with_reducible assumption) | (with_reducible refine Below.alloc ?_ ?_ _) | (with_reducible refine Below.drew ?_) | (with_reducible refine Below.setCell ?_ ?_ _) | (with_reducible refine Below.trans ?_ (Below.mono (by assumption) ?_)) | go_size))
                · have d32 : decide ((16 : Int) < (nn : Int)) = false := decide_eq_false (by omega)
                  have hmf : manyS r i = false := by unfold manyS; rw [← HNN.out]; simp; omega
                  have HDB := Lib.hid (headBad_dup (l := (rx r i).fields) (lnm := RField.name) (lps := RField.pos) (pos := (rx r i).pos) HT.out hmf)
                  clear f0 f1 ff lF y1 hmf hE1
                  go_wp2_with fail
                  clear y2 lE d8 d0 d0' d32 h8 h32
                  go_loopw [109] (fun v109 wr2 => ∃ k : Nat, v109 = .int .i64 (k : Int) ∧ k ≤ nn ∧ Hid (NmI w S #[.slice (some ⟨q, 0, none⟩) r.structs.length c1, .slice a2 r.enums.length c2, .slice a3 r.roots.length c3] (r.enums.length + i + 1) (usedS r (i + 1)) wr2) ∧ Hid (wr2.heap[E]? = some (.cells #[.string (rx r i).name, .int .i64 ((rx r i).pos : Int), .slice a nn c'] 35 (0, 0))) ∧ Hid (∀ j, j < k → dupK (rx r i).fields RField.name RField.pos j = none)) (fun v109 _ => nn - (intOf v109).toNat)
                  case atStart => exact ⟨0, rfl, by omega, HN2.out, by rw [HNN.out]; exact HE2.out, fun k hk => absurd hk (by omega)⟩
                  case round =>
                    obtain ⟨k, rfl, hk, hN3, hE3, hD⟩ := hrel
                    rename World => wr2
                    by_cases hkn : k < nn
                    · have hkI : (k : Int) < (nn : Int) := by omega
                      have HKN := Lib.hid hkn
                      have hkl : k < (rx r i).fields.length := by rw [← HNN.out]; exact hkn
                      have hkc : (k : Int) ≤ (c' : Int) := by omega
                      obtain ⟨qq, hqa, hqq, htk⟩ := (HROW.out.below hN3.out.below) (by omega)
                      subst hqa
                      obtain ⟨z0, z1, z2, z3, z4, z5, z6, z7⟩ := htk k hkl
                      have hdk := dupK_take (rx r i).fields RField.name RField.pos k (fx (rx r i) k) (by unfold fx; rw [List.getElem?_eq_getElem hkl]; rfl)
                      have HDK := Lib.hid hdk
                      obtain ⟨X, hX⟩ : ∃ X, X = fx (rx r i) k := ⟨_, rfl⟩
                      rw [← hX] at z0 z1 z2 z3 z4 z5 z6 z7 HDK
                      have hTb := blk_new wr2 (Obj.cells #[.string X.name, .int .i64 (X.pos : Int), .string X.ty.name, .int .i64 (X.ty.lists : Int), .int .i64 (X.ty.pos : Int), .int .i64 X.df.kind, .string X.df.text, .int .i64 (X.df.pos : Int)] 43)
                      have hbt := below1 wr2 (Obj.cells #[.string X.name, .int .i64 (X.pos : Int), .string X.ty.name, .int .i64 (X.ty.lists : Int), .int .i64 (X.ty.pos : Int), .int .i64 X.df.kind, .string X.df.text, .int .i64 (X.df.pos : Int)] 43)
                      have HN4 := Lib.hid (hN3.out.run hbt)
                      have HE4 := Lib.hid (blk_below hE3.out hbt (blk_lt hE3.out))
                      have htk4 := fun j hj => (htk j hj).below hbt
                      obtain ⟨wt, hwt⟩ : ∃ wt, wt = wr2.alloc (Obj.cells #[.string X.name, .int .i64 (X.pos : Int), .string X.ty.name, .int .i64 (X.ty.lists : Int), .int .i64 (X.ty.pos : Int), .int .i64 X.df.kind, .string X.df.text, .int .i64 (X.df.pos : Int)] 43) := ⟨_, rfl⟩
                      rw [← hwt] at hTb HN4 HE4 htk4
                      obtain ⟨Tb, hT⟩ : ∃ Tb, Tb = wr2.heap.size := ⟨_, rfl⟩
                      rw [← hT] at hTb
                      have HTb := Lib.hid hTb
                      have HTK := Lib.hid htk4
                      have hqt : qq < wt.heap.size := by rw [hwt]; simp; omega
                      clear hTb hbt htk htk4 hdk hX
                      go_upto_region 29 with (fail)
                      rw [← hwt, ← hT]
                      have y2 : wt.cell? ⟨E, 2, none⟩ = some (.slice (some ⟨qq, 0, none⟩) nn c') := by rw [blk_cell HE4.out]; rfl
                      have x1 : wt.cell? ⟨Tb, 0, none⟩ = some (.string X.name) := by rw [blk_cell HTb.out]; rfl
                      have lE := blk_lt HE4.out
                      have lT := blk_lt HTb.out
                      clear z0 z1 z2 z3 z4 z5 z6 z7 hwt hT hqq
                      go_wp2_with fail
                      refine (cfFld_calls (rx r i) qq k c' X.name Tb wt (by omega) (by have := HBD.out.f _ (rx_mem hin); omega) hqt lT x1 HTK.out).mono ?_
                      rintro e w5 ⟨rfl, hB5⟩
                      have HN5 := Lib.hid (HN4.out.run hB5)
                      have HE5 := Lib.hid (blk_below HE4.out hB5 (blk_lt HE4.out))
                      have HT5 := Lib.hid (blk_below HTb.out hB5 (blk_lt HTb.out))
                      clear hB5 y2 x1 lE lT hqt HTb HTK HN4 HE4
                      cases hany : ((rx r i).fields.take k).any (fun x => eqS x.name X.name) with
                      | true =>
                        have hdup : dupK (rx r i).fields RField.name RField.pos k = some (13, X.pos) := by rw [HDK.out]; exact if_pos hany
                        have hbad : badS r i = some (13, X.pos) := HDB.out.trans (firstBad_some hkl hdup hD.out)
                        have HNI := Lib.hid (namesI_S HBE.out hin hbad hBs.out)
                        clear hdup hbad hany
                        have f0 : w5.cell? ⟨S + 1, 0, none⟩ = some (.int .i64 0) := by rw [blk_cell HN5.out.b2]; rfl
                        have f1 : w5.cell? ⟨S + 1, 1, none⟩ = some (.int .i64 0) := by rw [blk_cell HN5.out.b2]; rfl
                        have ff := fun j => blk_frozen HN5.out.b2 j
                        have lF := blk_lt HN5.out.b2
                        have x2 : w5.cell? ⟨Tb, 1, none⟩ = some (.int .i64 (X.pos : Int)) := by rw [blk_cell HT5.out]; rfl
                        have lT := blk_lt HT5.out
                        go_wp2_with fail
                        refine bodyPost_ret (v := .agg #[.int .i64 13, .int .i64 (X.pos : Int)]) (by simp [results, Try.results49, go_sem, *]) rfl ⟨by rw [HNI.out]; rfl, ?_⟩
                        have hB := HN5.out.below
                        have hS := HS.out
                        (repeat' (first | (with_reducible exact Below.refl _ _) | (with_reducible assumption) | (with_reducible refine Below.alloc ?_ ?_ _) | (with_reducible refine Below.drew ?_) | (with_reducible refine Below.setCell ?_ ?_ _) | (with_reducible refine Below.trans ?_ (Below.mono (by assumption) ?_)) | go_size))
                      | false =>
                        have hdup : dupK (rx r i).fields RField.name RField.pos k = none := by rw [HDK.out]; exact if_neg (by rw [hany]; simp)
                        clear hany
                        go_wp2_with fail
                        go_roundw
                        case rel => exact ⟨k + 1, by go_num, HKN.out, HN5.out, HE5.out, fun j hj => by
                          by_cases e : j = k
                          · subst e; exact hdup
                          · exact hD.out j (by omega)⟩
                        case measure => have := HKN.out; simp [intOf]; omega
                    · obtain rfl : k = nn := by omega
                      go_wp2_with fail
                      go_roundw
                      case rel => exact ⟨i + 1, by go_num, by omega, by rw [← Nat.add_assoc]; exact hN3.out, fun j hj => by
                        by_cases e : j = i
                        · subst e; exact HDB.out.trans (firstBad_none.2 (by rw [← HNN.out]; exact hD.out))
                        · exact hBs.out j (by omega)⟩
                      case measure => simp [intOf]; omega
        · obtain rfl : i = r.structs.length := by omega
          have z0 : wr.cell? ⟨S, 0, none⟩ = some (.slice a1 r.structs.length c1) := by rw [blk_cell hN.out.b1]; rfl
          have z1 : wr.cell? ⟨S, 1, none⟩ = some (.slice a2 r.enums.length c2) := by rw [blk_cell hN.out.b1]; rfl
          have lz := blk_lt hN.out.b1
          have hall : namesI r = none := namesI_none HBE.out hBs.out
          have HNI := Lib.hid hall
          have HN2 := Lib.hid hN.out
          clear hall z0 z1 lz hN hBs hin hi
          have f0 : wr.cell? ⟨S + 1, 0, none⟩ = some (.int .i64 0) := by rw [blk_cell HN2.out.b2]; rfl
          have f1 : wr.cell? ⟨S + 1, 1, none⟩ = some (.int .i64 0) := by rw [blk_cell HN2.out.b2]; rfl
          have ff := fun j => blk_frozen HN2.out.b2 j
          have lF := blk_lt HN2.out.b2
          go_wp2_with fail
          refine bodyPost_ret (v := .agg #[.int .i64 0, .int .i64 0]) (by simp [results, Try.results49, go_sem, *]) rfl ⟨by rw [HNI.out]; rfl, ?_⟩
          have hB := HN2.out.below
          have hS := HS.out
          (repeat' (first | (with_reducible exact Below.refl _ _) | (with_reducible assumption) | (with_reducible refine Below.alloc ?_ ?_ _) | (with_reducible refine Below.drew ?_) | (with_reducible refine Below.setCell ?_ ?_ _) | (with_reducible refine Below.trans ?_ (Below.mono (by assumption) ?_)) | go_size))

end Go.Proofs.Ytgoaiokpnifhfaa
