/-
  IdlJoins: the walk.
-/
import Derived.Test.YtgoaiokpnifhfaaAwake04
import Derived.Test.YtgoaiokpnifhfaaJoinP
import Derived.OpenShut
namespace Go.Proofs.Ytgoaiokpnifhfaa
open Go.RowKit
set_option linter.unusedVariables false
set_option linter.unusedSimpArgs false

theorem parse_errc {s : ByteArray} {c : Int} {p : Nat} (h : parseI s = .error (c, p)) : c ≠ 0 := by
  unfold parseI at h
  cases ht : toks s sgI with
  | error x => rw [ht] at h; cases h; exact toks_err ht
  | ok l =>
    rw [ht] at h
    simp only [rawOf] at h
    by_cases e : (allR l).2.c = 0
    · rw [if_pos e] at h; cases h
    · rw [if_neg e] at h; cases h; exact e

/-- a struct's name, and how many fields it has -/
def lk (r : RawD) (i : Nat) : ByteArray × Nat := ((look r).1[i]?).getD (⟨#[]⟩, 0)
def RecRow (w : World) (a : Option Addr) (r : RawD) : Prop := 0 < r.structs.length → ∃ q, a = some ⟨q, 0, none⟩ ∧ q < w.heap.size ∧ ∀ i, i < r.structs.length → ∃ p a' c', w.cell? ⟨q, i * 3, none⟩ = some (.string (lk r i).1) ∧ w.cell? ⟨q, i * 3 + 1, none⟩ = some (.int .i64 (p : Nat)) ∧ w.cell? ⟨q, i * 3 + 2, none⟩ = some (.slice a' (lk r i).2 c')
theorem RecRow.below {w w' : World} {a : Option Addr} {r : RawD} (h : RecRow w a r) (hb : Below w.heap.size w w') : RecRow w' a r := fun h0 => by
  obtain ⟨q, e, hq, hc⟩ := h h0
  refine ⟨q, e, Nat.lt_of_lt_of_le hq hb.size, fun i hi => ?_⟩
  obtain ⟨p, a', c', h1, h2, h3⟩ := hc i hi
  exact ⟨p, a', c', cell_kept h1 hb, cell_kept h2 hb, cell_kept h3 hb⟩
theorem hd_at {w : World} {A : Nat → Prop} : ∀ (bs : List RRec) (vs : List Value), InnersAt w A fldN fldC bs vs → ∀ (i : Nat) (b : RRec), bs[i]? = some b → ∃ a' c', (recsL bs vs)[i * 3]? = some (.string b.name) ∧ (recsL bs vs)[i * 3 + 1]? = some (.int .i64 (b.pos : Int)) ∧ (recsL bs vs)[i * 3 + 2]? = some (.slice a' b.fields.length c')
  | [], [], _, i, b, hb => by simp at hb
  | x :: bs, v :: vs, h, 0, b, hb => by
    obtain rfl := Option.some.inj hb
    obtain ⟨a', c', e⟩ := slice_form h.1
    exact ⟨a', c', rfl, rfl, by rw [e]; rfl⟩
  | x :: bs, v :: vs, h, i + 1, b, hb => by
    have hb2 : bs[i]? = some b := by simpa using hb
    obtain ⟨a', c', h1, h2, h3⟩ := hd_at bs vs h.2 i b hb2
    refine ⟨a', c', ?_⟩
    rw [show (i + 1) * 3 = i * 3 + 1 + 1 + 1 by omega]
    exact ⟨h1, h2, h3⟩
  | [], _ :: _, h, _, _, _ => h.elim
  | _ :: _, [], h, _, _, _ => h.elim
theorem rec_row {w : World} {a : Option Addr} {n c : Nat} {ve vr : Value} {r : RawD} (h : RawAt w (.slice a n c) ve vr r) : RecRow w a r := fun h0 => by
  obtain ⟨sl, el, ⟨a2, c2, e, hq⟩, _, _, h4, _⟩ := h
  cases e
  obtain ⟨q, ea, _, hl, hc⟩ := hq h0
  refine ⟨q, ea, hl, fun i hi => ?_⟩
  obtain ⟨a', c', g1, g2, g3⟩ := hd_at _ _ h4 i _ (List.getElem?_eq_getElem hi)
  have el : lk r i = (r.structs[i].name, r.structs[i].fields.length) := by simp [lk, look, hi]
  rw [el]
  exact ⟨_, a', c', hc _ _ g1, hc _ _ g2, hc _ _ g3⟩

/-- what a call of Parse comes to, in one form -/
def GenPost (w : World) (s : ByteArray) (e : Ending) (w' : World) : Prop :=
  ∃ a1 n1 k1 a2 n2 k2 a3 n3 k3 c p, e = .returned (.tuple #[.agg #[.slice a1 n1 k1, .slice a2 n2 k2, .slice a3 n3 k3], .agg #[.int .i64 c, .int .i64 ((p : Nat) : Int)]]) ∧ Below w.heap.size w w' ∧
    (c = 0 → ∃ r, parseI s = .ok r ∧ n1 = r.structs.length ∧ n2 = r.enums.length ∧ n3 = r.roots.length ∧ RecRow w' a1 r) ∧ (c ≠ 0 → parseI s = .error (c, p))
theorem parse_gen (s : ByteArray) (w : World) (hs : s.size ≤ 140737488351232) : Calls Try.prog 7 #[.string s] w (GenPost w s) := by
  refine (parse_calls s w hs).mono fun e w' h => ?_
  unfold ParsePost at h
  cases ho : parseI s with
  | error x =>
    obtain ⟨c, p⟩ := x
    rw [ho] at h
    obtain ⟨hB, rfl⟩ := h
    exact ⟨none, 0, 0, none, 0, 0, none, 0, 0, c, p, rfl, hB, fun e => absurd e (parse_errc ho), fun _ => ho⟩
  | ok r =>
    rw [ho] at h
    obtain ⟨hB, vs, ve, vr, rfl, hr⟩ := h
    have hr' := hr
    obtain ⟨sl, el, h1, h2, h3, _, _⟩ := hr
    obtain ⟨a1, k1, rfl⟩ := slice_form h1
    obtain ⟨a2, k2, rfl⟩ := slice_form h2
    obtain ⟨a3, k3, rfl⟩ := slice_form h3
    exact ⟨a1, _, k1, a2, _, k2, a3, _, k3, 0, 0, rfl, hB, fun _ => ⟨r, ho, rfl, rfl, rfl, rec_row hr'⟩, fun e => absurd rfl e⟩
theorem lk_join {ra rb rc : RawD} (h : Behd ra rb rc) (i : Nat) : lk rc i = if i < ra.structs.length then lk ra i else lk rb (i - ra.structs.length) := by
  have h1 : (look rc).1 = (look ra).1 ++ (look rb).1 := by rw [h]
  have hl : (look ra).1.length = ra.structs.length := by simp [look]
  unfold lk
  rw [h1, List.getElem?_append, hl]
  split <;> rfl
theorem all_cnt (l : List Tok) : ∀ (f : Nat) (σ : PS) (r : RawD), cntR (allLoop l f σ r).1 ≤ cntR r + f := by
  intro f
  induction f with
  | zero => intro σ r; simp [allLoop]
  | succ f ih =>
    intro σ r
    unfold allLoop
    split
    · have h1 := ih (declS l σ) (declV l σ r)
      have h2 := declV_cnt l σ r
      omega
    · simp
theorem parse_cnt {s : ByteArray} {r : RawD} (h : parseI s = .ok r) : cntR r ≤ 2049 := by
  unfold parseI at h
  cases ht : toks s sgI with
  | error x => rw [ht] at h; cases h
  | ok l =>
    rw [ht] at h
    simp only [rawOf] at h
    by_cases e : (allR l).2.c = 0
    · rw [if_pos e] at h
      cases h
      have h1 := all_cnt l (l.length + 1) ⟨0, 0, 0⟩ ⟨[], [], []⟩
      have h2 := toks_most ht
      have h3 : cntR ⟨[], [], []⟩ = 0 := rfl
      unfold allR
      omega
    · rw [if_neg e] at h; cases h

set_option maxHeartbeats 8000000 in
set_option maxRecDepth 100000 in
theorem idlJoins_walk (a b : ByteArray) (w : World) (ha : a.size ≤ 140737488351232) (hb : b.size ≤ 140737488351232) :
    Calls Try.prog 3 #[.string a, .string b] w fun e w' => e = .returned (.bool true) ∧ Below w.heap.size w w' := by
  have haI : (a.size : Int) ≤ 140737488351232 := by omega
  have hbI : (b.size : Int) ≤ 140737488351232 := by omega
  by_cases hbig : 8191 < a.size + b.size
  · have hd : decide ((8191 : Int) < (a.size : Int) + (b.size : Int)) = true := decide_eq_true (by omega)
    clear hbig
    go_enter Try.func3, Try.ntmps3
    go_wp2_with (first | (go_at_call 6; refine (awake04_calls _).mono ?_; rintro e wB ⟨rfl, hB⟩; have hzB := hB.size; (try simp only [World.size_alloc, World.size_setCell, World.size_drew] at hzB); obtain ⟨hcB, hfB⟩ := bcell hB))
    go_ret
    exact ⟨rfl, hB⟩
  · have hd : decide ((8191 : Int) < (a.size : Int) + (b.size : Int)) = false := decide_eq_false (by omega)
    have hab : a.size + b.size ≤ 8191 := by omega
    clear hbig
    have hp1 := fun (W : World) => parse_gen a W ha
    have hp2 := fun (W : World) => parse_gen b W hb
    have hp3 := fun (W : World) => parse_gen (joinB a b) W (by rw [joinB_size]; omega)
    have HJ := Lib.hid (fun ra rb h1 h2 => parse_join a b ra rb h1 h2 hab)
    unfold GenPost at hp1 hp2 hp3
    have H1 := Lib.hid hp1
    have H2 := Lib.hid hp2
    have H3 := Lib.hid hp3
    clear hp1 hp2 hp3
    go_enter Try.func3, Try.ntmps3
    go_wp2_with (first | (go_at_call 6; refine (awake04_calls _).mono ?_; rintro e wB ⟨rfl, hB⟩; have hzB := hB.size; (try simp only [World.size_alloc, World.size_setCell, World.size_drew] at hzB); obtain ⟨hcB, hfB⟩ := bcell hB))
    have HB0 := Lib.hid hB
    clear hB hcB hfB
    refine (H1.out wB).mono ?_
    rintro e w1 ⟨a1, n1, k1, a2, n2, k2, a3, n3, k3, c1, p1, rfl, hB1, ho1, he1⟩
    have HB1 := Lib.hid (HB0.out.trans (hB1.mono HB0.out.size))
    have HO1 := Lib.hid ho1
    clear hB1 ho1 he1
    go_wp2_with fail
    refine (H2.out _).mono ?_
    rintro e w2 ⟨b1, m1, j1, b2, m2, j2, b3, m3, j3, c2, p2, rfl, hB2, ho2, he2⟩
    have hz2 := hB2.size
    simp only [World.size_alloc] at hz2
    have hR1 := blk_below (blk_alloc (blk_new w1 (Obj.cells #[Value.slice a1 n1 k1, Value.slice a2 n2 k2, Value.slice a3 n3 k3] 27 (0, 0))) (Obj.cells #[Value.int .i64 c1, Value.int .i64 (p1 : Int)] 30 (0, 0))) hB2 (by simp; omega)
    have hF1 := blk_below (blk_new (w1.alloc (Obj.cells #[Value.slice a1 n1 k1, Value.slice a2 n2 k2, Value.slice a3 n3 k3] 27 (0, 0))) (Obj.cells #[Value.int .i64 c1, Value.int .i64 (p1 : Int)] 30 (0, 0))) hB2 (by simp)
    rw [World.size_alloc] at hF1
    have hW1 : Below w1.heap.size w1 w2 := ((below1 w1 _).alloc (by simp) _).trans (hB2.mono (by simp; omega))
    obtain ⟨R, hR⟩ : ∃ R, R = w1.heap.size := ⟨_, rfl⟩
    rw [← hR] at hR1 hF1 hz2 ⊢
    have HB2 := Lib.hid (HB1.out.trans (hW1.mono HB1.out.size))
    have HW1 := Lib.hid hW1
    have HO2 := Lib.hid ho2
    have hF2 := blk_alloc (blk_alloc hF1 (Obj.cells #[Value.slice b1 m1 j1, Value.slice b2 m2 j2, Value.slice b3 m3 j3] 27 (0, 0))) (Obj.cells #[Value.int .i64 c2, Value.int .i64 (p2 : Int)] 30 (0, 0))
    have f1 : _ = some (Value.int .i64 c1) := blk_cell hF2 0
    have lF1 : R + 1 < w2.heap.size := by omega
    have HR1 := Lib.hid hR1
    clear hB2 hW1 ho2 he2 hR hF1 hR1 hF2
    by_cases hc1 : c1 = 0
    · obtain ⟨ra, hra, hn1, hn2, hn3, hrow1⟩ := HO1.out hc1
      have bc1 : (c1 != 0) = false := by rw [bne_eq_false_iff_eq]; exact hc1
      by_cases hc2 : c2 = 0
      · obtain ⟨rb, hrb, hm1, hm2, hm3, hrow2⟩ := HO2.out hc2
        have bc2 : (c2 != 0) = false := by rw [bne_eq_false_iff_eq]; exact hc2
        have HRA := Lib.hid hra
        have HRB := Lib.hid hrb
        have HN := Lib.hid (And.intro hn1 (And.intro hn2 hn3))
        have HM := Lib.hid (And.intro hm1 (And.intro hm2 hm3))
        have HROW1 := Lib.hid (hrow1.below HW1.out)
        have HROW2 := Lib.hid hrow2
        clear hc1 hc2 hra hrb hn1 hn2 hn3 hm1 hm2 hm3 hrow1 hrow2
        go_wp2_with fail
        refine (H3.out _).mono ?_
        rintro e w3 ⟨d1, q1, l1, d2, q2, l2, d3, q3, l3, c3, p3, rfl, hB3, ho3, he3⟩
        have hz3 := hB3.size
        simp only [World.size_alloc] at hz3
        obtain ⟨T, hT⟩ : ∃ T, T = w2.heap.size := ⟨_, rfl⟩
        have hR2 := blk_below (blk_alloc (blk_alloc (HR1.out) (Obj.cells #[Value.slice b1 m1 j1, Value.slice b2 m2 j2, Value.slice b3 m3 j3] 27 (0, 0))) (Obj.cells #[Value.int .i64 c2, Value.int .i64 (p2 : Int)] 30 (0, 0))) hB3 (by simp; omega)
        have hT2 := blk_below (blk_alloc (blk_new w2 (Obj.cells #[Value.slice b1 m1 j1, Value.slice b2 m2 j2, Value.slice b3 m3 j3] 27 (0, 0))) (Obj.cells #[Value.int .i64 c2, Value.int .i64 (p2 : Int)] 30 (0, 0))) hB3 (by simp; omega)
        have hW2 : Below w2.heap.size w2 w3 := ((below1 w2 _).alloc (by simp) _).trans (hB3.mono (by simp; omega))
        have HB3 := Lib.hid (HB2.out.trans (hW2.mono HB2.out.size))
        have HW2 := Lib.hid hW2
        rw [← hT] at hT2 ⊢
        have hR3 := blk_alloc (blk_alloc hR2 (Obj.cells #[Value.slice d1 q1 l1, Value.slice d2 q2 l2, Value.slice d3 q3 l3] 27 (0, 0))) (Obj.cells #[Value.int .i64 c3, Value.int .i64 (p3 : Int)] 30 (0, 0))
        have hT3 := blk_alloc (blk_alloc hT2 (Obj.cells #[Value.slice d1 q1 l1, Value.slice d2 q2 l2, Value.slice d3 q3 l3] 27 (0, 0))) (Obj.cells #[Value.int .i64 c3, Value.int .i64 (p3 : Int)] 30 (0, 0))
        have r0 : _ = some (Value.slice a1 n1 k1) := blk_cell hR3 0
        have r1 : _ = some (Value.slice a2 n2 k2) := blk_cell hR3 1
        have r2 : _ = some (Value.slice a3 n3 k3) := blk_cell hR3 2
        have t0 : _ = some (Value.slice b1 m1 j1) := blk_cell hT3 0
        have t1 : _ = some (Value.slice b2 m2 j2) := blk_cell hT3 1
        have t2 : _ = some (Value.slice b3 m3 j3) := blk_cell hT3 2
        have HR2 := Lib.hid hR2
        have HT2 := Lib.hid hT2
        have lR : R < w3.heap.size := by omega
        have lT : T < w3.heap.size := by omega
        have HZ3 := Lib.hid hz3
        clear hR2 hT2 hW2 hB3 hR3 hT3 hz2 hz3 hT f1 lF1 HR1
        rcases HJ.out ra rb HRA.out HRB.out with ⟨p, hx⟩ | ⟨rc, hrc, hbe⟩
        · have hc3 : c3 = 16 := by
            by_cases e : c3 = 0
            · obtain ⟨r, hr, _⟩ := ho3 e
              rw [hx] at hr; cases hr
            · have := he3 e
              rw [hx] at this
              cases this; rfl
          clear ho3 he3 hx
          subst hc3
          go_wp2_with fail
          go_ret
          refine ⟨rfl, ?_⟩
          have hB := HB3.out
          have hz := hB.size
          (repeat' (first | (with_reducible exact Below.refl _ _) | (with_reducible assumption) | (with_reducible refine below_drewN ?_ _) | (with_reducible refine Below.alloc ?_ ?_ _) | (with_reducible refine Below.drew ?_) | (with_reducible refine Below.setCell ?_ ?_ _) | (with_reducible refine Below.trans ?_ (Below.mono (by assumption) ?_)) | go_size))
        · have hc3 : c3 = 0 := by
            by_cases e : c3 = 0
            · exact e
            · have := he3 e
              rw [hrc] at this; cases this
          obtain ⟨r, hr, hq1, hq2, hq3, hrow⟩ := ho3 hc3
          obtain rfl : rc = r := by rw [hrc] at hr; exact Except.ok.inj hr
          have hn := HN.out
          have hm := HM.out
          have hl := hbe
          unfold Behd look at hl
          simp only [Prod.mk.injEq] at hl
          have hl1 : rc.structs.length = ra.structs.length + rb.structs.length := by simpa using congrArg List.length hl.1
          have hca := parse_cnt HRA.out
          have hcb := parse_cnt HRB.out
          unfold cntR at hca hcb
          have e1 : (q1 : Int) = n1 + m1 := by omega
          have e2 : (q2 : Int) = n2 + m2 := by omega
          have e3 : (q3 : Int) = n3 + m3 := by omega
          have u1 : n1 ≤ 2049 := by omega
          have u2 : n2 ≤ 2049 := by omega
          have u3 : n3 ≤ 2049 := by omega
          have v1 : m1 ≤ 2049 := by omega
          have v2 : m2 ≤ 2049 := by omega
          have v3 : m3 ≤ 2049 := by omega
          have x1 : ((q1 : Int) != n1 + m1) = false := by rw [bne_eq_false_iff_eq]; exact e1
          have x2 : ((q2 : Int) != n2 + m2) = false := by rw [bne_eq_false_iff_eq]; exact e2
          have x3 : ((q3 : Int) != n3 + m3) = false := by rw [bne_eq_false_iff_eq]; exact e3
          have HROW3 := Lib.hid hrow
          have HBE := Lib.hid hbe
          have HE1 := Lib.hid e1
          have HQ1 := Lib.hid hq1
          clear ho3 he3 hr hrc hq1 hq2 hq3 hrow hbe hn hm hl hl1 hca hcb e1 e2 e3
          subst hc3
          go_wp2_with fail
          have lRI := lR
          have h0 := Lib.hid r0
          have h1 := Lib.hid t0
          clear r0 r1 r2 t0 t1 t2 x1 x2 x3 u2 u3 v2 v3 bc1 bc2
          go_loopw [96] (fun v96 wr => ∃ i : Nat, i ≤ q1 ∧ v96 = .int .i64 (i : Int) ∧ Hid (Below w3.heap.size w3 wr)) (fun v96 _ => q1 - (intOf v96).toNat)
          case atStart => exact ⟨0, by omega, rfl, Lib.hid ((below1 w3 _).alloc (by simp) _)⟩
          case round =>
            obtain ⟨i, hi, rfl, hB⟩ := hrel
            have hz := hB.out.size
            have c0 : wr.cell? ⟨R, 0, none⟩ = some (.slice a1 n1 k1) := blk_cell (blk_below HR2.out hB.out lR) 0
            have c1 : wr.cell? ⟨T, 0, none⟩ = some (.slice b1 m1 j1) := blk_cell (blk_below HT2.out hB.out lT) 0
            have lR2 : R < wr.heap.size := by omega
            have lT2 : T < wr.heap.size := by omega
            by_cases hiq : i < q1
            · have hiI : (i : Int) < (q1 : Int) := by omega
              have hir : i < rc.structs.length := by have := HQ1.out; omega
              obtain ⟨qd, rfl, hqd, hcd⟩ := HROW3.out (by omega)
              obtain ⟨pd, ad, kd, g1, g2, g3⟩ := hcd i hir
              have g1 := cell_kept g1 hB.out
              have g2 := cell_kept g2 hB.out
              have g3 := cell_kept g3 hB.out
              have lqd : qd < wr.heap.size := by omega
              have hj := lk_join HBE.out i
              have hn := HN.out.1
              have hm := HM.out.1
              have he := HE1.out
              by_cases hia : i < n1
              · have hiaI : (i : Int) < (n1 : Int) := by omega
                have dI : decide ((i : Int) < (n1 : Int)) = true := decide_eq_true hiaI
                obtain ⟨qa, rfl, hqa, hca⟩ := HROW1.out.below HW2.out (by omega)
                obtain ⟨pa, aa, ka, s1, s2, s3⟩ := hca i (by omega)
                have s1 := cell_kept s1 hB.out
                have s2 := cell_kept s2 hB.out
                have s3 := cell_kept s3 hB.out
                have lqa : qa < wr.heap.size := by omega
                rw [if_pos (by omega)] at hj
                rw [hj] at g1 g3
                obtain ⟨nm, hnm⟩ : ∃ x, x = (lk ra i).1 := ⟨_, rfl⟩
                obtain ⟨fk, hfk⟩ : ∃ x, x = (lk ra i).2 := ⟨_, rfl⟩
                rw [← hnm] at g1 s1
                rw [← hfk] at g3 s3
                have HI := Lib.hid hi
                have HIQ := Lib.hid hiq
                clear hj hn hm he hnm hfk hir hcd hca HROW1 HROW2 HROW3 HBE HN HM HE1 HQ1 HR2 HT2 h0 h1 hi hiq
                go_wp2_with fail
                refine ⟨⟨i + 1, by have := HIQ.out; omega, by congr 1, Lib.hid ((hB.out.alloc hz _).alloc (by simp; omega) _)⟩, ?_⟩
                simp only [intOf]
                have := HIQ.out
                omega
              · have hiaI : ¬ ((i : Int) < (n1 : Int)) := by omega
                have dI : decide ((i : Int) < (n1 : Int)) = false := decide_eq_false hiaI
                obtain ⟨qb, rfl, hqb, hcb⟩ := HROW2.out.below HW2.out (by omega)
                obtain ⟨j, rfl⟩ : ∃ j, i = n1 + j := ⟨i - n1, by omega⟩
                obtain ⟨pa, aa, ka, s1, s2, s3⟩ := hcb j (by omega)
                have s1 := cell_kept s1 hB.out
                have s2 := cell_kept s2 hB.out
                have s3 := cell_kept s3 hB.out
                have lqb : qb < wr.heap.size := by omega
                rw [if_neg (by omega), show n1 + j - ra.structs.length = j by omega] at hj
                rw [hj] at g1 g3
                obtain ⟨nm, hnm⟩ : ∃ x, x = (lk rb j).1 := ⟨_, rfl⟩
                obtain ⟨fk, hfk⟩ : ∃ x, x = (lk rb j).2 := ⟨_, rfl⟩
                rw [← hnm] at g1 s1
                rw [← hfk] at g3 s3
                have HI := Lib.hid hi
                have HIQ := Lib.hid hiq
                have hjm : j < m1 := by omega
                have hjI : (j : Int) < (m1 : Int) := by omega
                have hji : ((n1 + j : Nat) : Int) - (n1 : Int) = (j : Int) := by omega
                have hji2 : ((n1 : Int) + (j : Int)) - (n1 : Int) = (j : Int) := by omega
                clear hj hn hm he hnm hfk hir hcd hcb HROW1 HROW2 HROW3 HBE HN HM HE1 HQ1 HR2 HT2 h0 h1 hi hiq hia
                go_wp2_with fail
                refine ⟨⟨(n1 + j) + 1, by have := HIQ.out; omega, by congr 1, Lib.hid ((hB.out.alloc hz _).alloc (by simp; omega) _)⟩, ?_⟩
                simp only [intOf]
                have := HIQ.out
                omega
            · have hie : i = q1 := by omega
              have hiI : ¬ (i : Int) < (q1 : Int) := by omega
              have dI : decide ((i : Int) < (q1 : Int)) = false := decide_eq_false hiI
              have HIQ := Lib.hid hiq
              clear hi hiq hie
              go_wp2_with fail
              go_ret
              exact ⟨rfl, HB3.out.trans (hB.out.mono HB3.out.size)⟩
      · have bc2 : (c2 != 0) = true := by rw [bne_iff_ne]; exact hc2
        clear hc1 hc2
        go_wp2_with fail
        go_ret
        refine ⟨rfl, ?_⟩
        have hB := HB2.out
        have hz := hB.size
        (repeat' (first | (with_reducible exact Below.refl _ _) | (with_reducible assumption) | (with_reducible refine below_drewN ?_ _) | (with_reducible refine Below.alloc ?_ ?_ _) | (with_reducible refine Below.drew ?_) | (with_reducible refine Below.setCell ?_ ?_ _) | (with_reducible refine Below.trans ?_ (Below.mono (by assumption) ?_)) | go_size))
    · have bc1 : (c1 != 0) = true := by rw [bne_iff_ne]; exact hc1
      clear hc1
      go_wp2_with fail
      go_ret
      refine ⟨rfl, ?_⟩
      have hB := HB2.out
      have hz := hB.size
      (repeat' (first | (with_reducible exact Below.refl _ _) | (with_reducible assumption) | (with_reducible refine below_drewN ?_ _) | (with_reducible refine Below.alloc ?_ ?_ _) | (with_reducible refine Below.drew ?_) | (with_reducible refine Below.setCell ?_ ?_ _) | (with_reducible refine Below.trans ?_ (Below.mono (by assumption) ?_)) | go_size))

end Go.Proofs.Ytgoaiokpnifhfaa
