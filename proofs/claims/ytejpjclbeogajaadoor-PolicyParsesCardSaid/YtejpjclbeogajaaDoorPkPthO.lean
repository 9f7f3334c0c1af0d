/-
  Parts: PthO, PthQ, Awk20.
-/
import Derived.Test.YtejpjclbeogajaaDoorPkMskH
import Derived.Test.YtejpjclbeogajaaDoorPwG

/-
  path.Of: a path of tokens.
-/
namespace Go.Proofs.YtejpjclbeogajaaDoor
open Go.RowKit
open Go.Proofs.YtejpjclbeogajaaDoorP
open Go.Proofs.YtejpjclbeogajaaDoorW.PrintWords (Kd blk_ne blk_far blk_put)
open Go.Proofs.YtejpjclbeogajaaDoor.PwG
set_option linter.unusedVariables false
set_option linter.unusedSimpArgs false

set_option maxHeartbeats 4000000 in
set_option maxRecDepth 100000 in
theorem pthOf_calls (l0 : List SRec) (l1 : List SCho) (A0 A1 : Option Addr) (c0 c1 : Nat) (root : Nat) (hw : SchW l0) (hroot : root < l0.length) (l : List Tok) (g cg : Nat) (hTW : TokW l) (hcg : l.length ≤ cg) (hno : ∀ i, sigT l i cBra = false) (i0 : Nat) (hi0 : i0 ≤ l.length) (w : World) (h0 : Kd.C Pf.k82 w A0 l0.length l0) (hTI : ToksIn w g l) :
    Calls Tryd.prog 40 #[.agg #[.slice A0 l0.length c0, .slice A1 l1.length c1, .int .i64 (root : Int)], .slice (some ⟨g, 0, none⟩) l.length cg, .int .i64 (i0 : Int)] w (PthPost w (pthO l0 root l i0)) := by
  have hmx := h0.2.1
  obtain ⟨q0, o0, rfl, hq0, hrow⟩ := C_addr h0 (by omega) (by decide)
  obtain ⟨w1, hw1⟩ : ∃ w1, w1 = ((w.alloc (Obj.cells #[.slice (some ⟨q0, o0, none⟩) l0.length c0, .slice A1 l1.length c1, .int .i64 (root : Int)] 32)).alloc (.cells #[.slice none 0 0, .int .u8 0, .int .i64 0, .int .i64 0] pathT)).alloc (.cells #[.slice none 0 0, .int .u8 13, .int .i64 (root : Int), .int .i64 0] pathT) := ⟨_, rfl⟩
  have hgl := hTI.lt hTW.pos
  have hb1 : Below w.heap.size w w1 := by rw [hw1]; (repeat' (first | (with_reducible exact Below.refl _ _) | (with_reducible assumption) | (with_reducible refine Below.alloc ?_ ?_ _) | (with_reducible refine Below.drew ?_) | (with_reducible refine Below.setCell ?_ ?_ _) | (with_reducible refine Below.trans ?_ (Below.mono (by assumption) ?_)) | go_size))
  obtain ⟨S, hS⟩ : ∃ S, S = w.heap.size := ⟨_, rfl⟩
  obtain ⟨RS, hRS⟩ : ∃ RS, RS = S + 1 := ⟨_, rfl⟩
  obtain ⟨X, hX⟩ : ∃ X, X = S + 1 + 1 := ⟨_, rfl⟩
  have hI0 : PthW w S X RS (.slice (some ⟨q0, o0, none⟩) l0.length c0) (.slice A1 l1.length c1) (.int .i64 (root : Int)) w1 (.slice none 0 0) ⟨13, (root : Int), 0⟩ [] := by
    refine ⟨Kd.R_nil _ _ _ _ _, ?_, ?_, ?_, hb1⟩
    · rw [hw1, hS]; exact blk_below (blk_below (blk_new _ _) (below1 _ _) (by simp)) (below1 _ _) (by simp; omega)
    · rw [hw1, hX, hS]; exact (by simp : (((w.alloc _).alloc _).heap.size = w.heap.size + 1 + 1)) ▸ blk_new _ _
    · rw [hw1, hRS, hS]; exact blk_below ((by simp : ((w.alloc _).heap.size = w.heap.size + 1)) ▸ blk_new _ _) (below1 _ _) (by simp)
  have HI0 := Lib.hid hI0
  have HSX := Lib.hid (show w.heap.size ≤ S ∧ w.heap.size ≤ X ∧ w.heap.size ≤ RS ∧ X ≠ RS ∧ S ≠ X ∧ S ≠ RS from ⟨by omega, by omega, by omega, by omega, by omega, by omega⟩)
  have HGL := Lib.hid hgl
  have HTI := Lib.hid hTI
  have HTW := Lib.hid hTW
  have HCG := Lib.hid hcg
  have HNO := Lib.hid hno
  have HSW := Lib.hid hw
  have HRT := Lib.hid hroot
  have HC0 := Lib.hid h0
  have HROW := Lib.hid (And.intro hrow hq0)
  have HI1 := Lib.hid hi0
  have hpi : pthO l0 root l i0 = pthF l0 l (l.length + 1) i0 ⟨13, (root : Int), 0⟩ [] := rfl
  have HPI := Lib.hid hpi
  have HMX := Lib.hid hmx
  generalize pthO l0 root l i0 = OUT at *
  clear hb1 hI0 hgl hTI hTW hcg hno hw hroot h0 hrow hq0 hi0 hpi hmx
  go_enter Tryd.func40, Tryd.ntmps40
  go_upto_region 2 with (fail)
  rw [← hw1, ← hS, ← hX, ← hRS]
  clear hw1 hS hRS hX
  go_loopw [2, 10, 11, 12, 13, 14, 122, 128] (fun v2 v10 v11 v12 v13 v14 v122 v128 wr => ∃ (i f : Nat) (ty : STy) (acc : List SStep) (u : Value), v2 = .int .i64 (i : Int) ∧ Hid (i ≤ l.length ∧ l.length + 1 ≤ f + i ∧ acc.length ≤ i) ∧ Hid (ty.f0 = 13 → 0 ≤ ty.f1 ∧ ty.f1 < (l0.length : Int)) ∧ Hid (OUT = pthF l0 l f i ty acc) ∧ Hid (PthW w S X RS (.slice (some ⟨q0, o0, none⟩) l0.length c0) (.slice A1 l1.length c1) (.int .i64 (root : Int)) wr u ty acc)) (fun v2 _ _ _ _ _ _ _ _ => l.length + 1 - (intOf v2).toNat)
  case atStart => exact ⟨i0, l.length + 1, ⟨13, (root : Int), 0⟩, [], .slice none 0 0, rfl, Lib.hid ⟨HI1.out, by omega, Nat.zero_le _⟩, Lib.hid (fun _ => ⟨by show (0 : Int) ≤ (root : Int); omega, by have := HRT.out; show (root : Int) < (l0.length : Int); omega⟩), HPI, HI0⟩
  case round =>
    obtain ⟨i, f, ty, acc, u, rfl, HBD, HTY, HOF, HI⟩ := hrel
    rename World => wr
    obtain ⟨f, rfl⟩ : ∃ f', f = f' + 1 := ⟨f - 1, by have := HBD.out; omega⟩
    have hTr := HTI.out.kept (HI.out.below.block g HGL.out)
    have HTr := Lib.hid hTr
    have lg := hTr.lt HTW.out.pos
    have hlm := HTW.out.most
    have hlI : (l.length : Int) ≤ 2048 := by omega
    have hOF := HOF.out
    simp only [pthF] at hOF
    have HOF2 := Lib.hid hOF
    have s0 : wr.cell? ⟨S, 0, none⟩ = some (.slice (some ⟨q0, o0, none⟩) l0.length c0) := by rw [blk_cell HI.out.bS]; rfl
    have s1 : wr.cell? ⟨S, 1, none⟩ = some (.slice A1 l1.length c1) := by rw [blk_cell HI.out.bS]; rfl
    have s2 : wr.cell? ⟨S, 2, none⟩ = some (.int .i64 (root : Int)) := by rw [blk_cell HI.out.bS]; rfl
    have lS := blk_lt HI.out.bS
    have x0 : wr.cell? ⟨X, 0, none⟩ = some u := by rw [blk_cell HI.out.bX]; rfl
    have x1 : wr.cell? ⟨X, 1, none⟩ = some (.int .u8 ty.f0) := by rw [blk_cell HI.out.bX]; rfl
    have x2 : wr.cell? ⟨X, 2, none⟩ = some (.int .i64 ty.f1) := by rw [blk_cell HI.out.bX]; rfl
    have x3 : wr.cell? ⟨X, 3, none⟩ = some (.int .i64 ty.f2) := by rw [blk_cell HI.out.bX]; rfl
    have lX := blk_lt HI.out.bX
    have fX0 := blk_frozen HI.out.bX 0
    have fX1 := blk_frozen HI.out.bX 1
    have fX2 := blk_frozen HI.out.bX 2
    have fX3 := blk_frozen HI.out.bX 3
    have z0 : wr.cell? ⟨RS, 0, none⟩ = some (.slice none 0 0) := by rw [blk_cell HI.out.bR]; rfl
    have z1 : wr.cell? ⟨RS, 1, none⟩ = some (.int .u8 0) := by rw [blk_cell HI.out.bR]; rfl
    have z2 : wr.cell? ⟨RS, 2, none⟩ = some (.int .i64 0) := by rw [blk_cell HI.out.bR]; rfl
    have z3 : wr.cell? ⟨RS, 3, none⟩ = some (.int .i64 0) := by rw [blk_cell HI.out.bR]; rfl
    have lR := blk_lt HI.out.bR
    have fR0 := blk_frozen HI.out.bR 0
    have fR1 := blk_frozen HI.out.bR 1
    have fR2 := blk_frozen HI.out.bR 2
    have fR3 := blk_frozen HI.out.bR 3
    clear hTr hlm hOF
    obtain ⟨tb, htb⟩ : ∃ tb, tb = !decide (labT l i = true ∧ ¬ 0 < ty.f2 ∧ ty.f0 = 13) := ⟨_, rfl⟩
    have HTB := Lib.hid htb
    clear htb
    go_upto_region 2 with (fail)
    go_cut [50] (fun s wc => s = .bool tb ∧ wc = wr)
    case first =>
      as_aux_lemma =>
        by_cases hi : i < l.length
        · have hiI : (i : Int) < (l.length : Int) := by omega
          have hiI2 : decide ((l.length : Int) ≤ (i : Int)) = false := decide_eq_false (by omega)
          obtain ⟨y0, y1, _⟩ := HTr.out i hi
          rw [show ((l[i]?).getD tok0).kind = kindT l i from rfl] at y0
          have hlab : labT l i = (decide (kindT l i = 1) || decide (kindT l i = 3)) := by rw [labT_lt hi, kindT_lt hi]
          have HLAB := Lib.hid hlab
          clear hi hlab y1
          by_cases k1 : kindT l i = 1
          · have k1b : (kindT l i != 1) = false := by rw [k1]; rfl
            by_cases e2 : 0 < ty.f2
            · have e2b : decide (0 < ty.f2) = true := decide_eq_true e2
              go_wp2
              go_meet
              case rel => exact ⟨by rw [HTB.out]; simp [e2], rfl⟩
            · have e2b : decide (0 < ty.f2) = false := decide_eq_false e2
              by_cases e3 : ty.f0 = 13
              · have e3b : (ty.f0 != 13) = false := by rw [e3]; rfl
                go_wp2
                go_meet
                case rel => exact ⟨by rw [HTB.out, HLAB.out]; (simp [k1, e3, e2]; omega), rfl⟩
              · have e3b : (ty.f0 != 13) = true := bne_iff_ne.2 e3
                go_wp2
                go_meet
                case rel => exact ⟨by rw [HTB.out]; simp [e3], rfl⟩
          · have k1b : (kindT l i != 1) = true := bne_iff_ne.2 k1
            by_cases k3 : kindT l i = 3
            · have k3b : (kindT l i != 3) = false := by rw [k3]; rfl
              by_cases e2 : 0 < ty.f2
              · have e2b : decide (0 < ty.f2) = true := decide_eq_true e2
                go_wp2
                go_meet
                case rel => exact ⟨by rw [HTB.out]; simp [e2], rfl⟩
              · have e2b : decide (0 < ty.f2) = false := decide_eq_false e2
                by_cases e3 : ty.f0 = 13
                · have e3b : (ty.f0 != 13) = false := by rw [e3]; rfl
                  go_wp2
                  go_meet
                  case rel => exact ⟨by rw [HTB.out, HLAB.out]; (simp [k3, e3, e2]; omega), rfl⟩
                · have e3b : (ty.f0 != 13) = true := bne_iff_ne.2 e3
                  go_wp2
                  go_meet
                  case rel => exact ⟨by rw [HTB.out]; simp [e3], rfl⟩
            · have k3b : (kindT l i != 3) = true := bne_iff_ne.2 k3
              go_wp2
              go_meet
              case rel => exact ⟨by rw [HTB.out, HLAB.out]; simp [k1, k3], rfl⟩
        · have hiI2 : decide ((l.length : Int) ≤ (i : Int)) = true := decide_eq_true (by omega)
          go_wp2
          go_meet
          case rel => exact ⟨by rw [HTB.out, labT_ge (by omega)]; simp, rfl⟩
    obtain ⟨rfl, hwc⟩ := hcut
    have hwc := hwc.symm
    subst hwc
    cases tb with
    | true =>
      as_aux_lemma =>
        have hno : ¬ (labT l i = true ∧ ¬ 0 < ty.f2 ∧ ty.f0 = 13) := fun h => by have := HTB.out; rw [decide_eq_true h] at this; cases this
        have HO3 := Lib.hid (HOF2.out.trans (if_neg hno))
        clear hno s0 s1 s2 lS x0 x1 x2 x3 lX fX0 fX1 fX2 fX3 lg hlI
        (repeat (first | go_values | go_skip | go_guarded | go_step | go_upon))
        obtain ⟨wf, hwf⟩ : ∃ wf, wf = (((World.setCell wr ⟨RS, 0, none⟩ (.slice none 0 0)).setCell ⟨RS, 1, none⟩ (.int .u8 0)).setCell ⟨RS, 2, none⟩ (.int .i64 0)).setCell ⟨RS, 3, none⟩ (.int .i64 0) := ⟨_, rfl⟩
        have hfin := HI.out.fin HSX.out.2.2.1 _ _ _ _ wf hwf
        rw [← hwf]
        clear hwf
        have r0 := blk_cell hfin.1 0
        have r1 := blk_cell hfin.1 1
        have r2 := blk_cell hfin.1 2
        have r3 := blk_cell hfin.1 3
        simp only [List.getElem?_toArray, List.getElem?_cons_zero, List.getElem?_cons_succ] at r0 r1 r2 r3
        refine bodyPost_ret (v := .tuple #[.agg #[.slice none 0 0, .int .u8 0, .int .i64 0, .int .i64 0], .int .i64 (i : Int), .bool false]) ?_ rfl ⟨fun _ => ⟨_, rfl⟩, fun _ _ _ h => (by rw [HO3.out] at h; cases h), hfin.2.1⟩
        simp [results, Tryd.results40, go_sem, r0, r1, r2, r3]
    | false =>
      as_aux_lemma =>
        have hys : labT l i = true ∧ ¬ 0 < ty.f2 ∧ ty.f0 = 13 := Classical.byContradiction fun h => by have := HTB.out; rw [decide_eq_false h] at this; cases this
        have hi := labT_bd hys.1
        have HII := Lib.hid hi
        have hiI : (i : Int) < (l.length : Int) := by omega
        obtain ⟨y0, y1, _⟩ := HTr.out i hi
        rw [show ((l[i]?).getD tok0).kind = kindT l i from rfl] at y0
        rw [show ((l[i]?).getD tok0).text = textT l i from rfl] at y1
        have HO3 := Lib.hid (HOF2.out.trans (if_pos hys))
        have hty := HTY.out hys.2.2
        have HK := Lib.hid hys.2.2
        obtain ⟨k, ref, ls⟩ := ty
        have hty : 0 ≤ ref ∧ ref < (l0.length : Int) := hty
        obtain ⟨rec, rfl⟩ := Int.eq_ofNat_of_zero_le hty.1
        have hrec : rec < l0.length := by omega
        have HREC := Lib.hid hrec
        have hfd1 := fun (W : World) (hW : Below wr.heap.size wr W) => find_calls (some ⟨q0, o0, none⟩) c0 l0 A1 c1 l1 (root : Int) rec (textT l i) W (Kd.C_below HC0.out (HI.out.below.trans (hW.mono HI.out.below.size))) hrec
        rw [show l0.getD rec Pf.z82 = recAt l0 rec from rfl] at hfd1
        clear hys hi hty y0 hrec
        go_upto_region 4 with (fail)
        have HO4 := Lib.hid (show OUT = (match findI (recAt l0 rec).f1 (textT l i) with
          | none => none
          | some j => match idxF l (l.length + 1) (i + 1) (fldAt (recAt l0 rec).f1 j).f1.f2 (acc ++ [⟨(j : Int), false, false, 0⟩]) with
            | none => none
            | some (i2, ls, acc2) => if 24 < acc2.length then none
              else if sigT l i2 cDot = true then pthF l0 l f (i2 + 1) ⟨(fldAt (recAt l0 rec).f1 j).f1.f0, (fldAt (recAt l0 rec).f1 j).f1.f1, ls⟩ acc2
              else some (acc2, ⟨(fldAt (recAt l0 rec).f1 j).f1.f0, (fldAt (recAt l0 rec).f1 j).f1.f1, ls⟩, i2)) from HO3.out)
        cases hfi : findI (recAt l0 rec).f1 (textT l i) with
        | none =>
          rw [hfi] at hfd1
          have hO := HO4.out
          rw [hfi] at hO
          have HO5 := Lib.hid hO
          clear hfi hO
          rw [show ixZ none = -1 from rfl, show (none : Option Nat).isSome = false from rfl] at hfd1
          (have hX := BelowOf.cell wr; refine wp_region_below_lit (by kernel_rfl) (by kernel_rfl) ?_; (repeat (go_big_quiet_step (exact quietLate hfd1))); refine wpQuiet_nil ?_); intro wB hw'; obtain ⟨⟨wB', hB'⟩, hw''⟩ := hw'; have hB : Below (World.heap wr).size wr wB := (by rw [hw'']; exact hB'); clear hw'' hB' hX; clear wB'; have hzB := hB.size; obtain ⟨hcB, hfB⟩ := bcell hB
          have HI2 := Lib.hid (HI.out.run hB)
          clear hB hcB hfB hzB hfd1 s0 s1 s2 lS x0 x1 x2 x3 lX fX0 fX1 fX2 fX3 z0 z1 z2 z3 lR fR0 fR1 fR2 fR3 lg y1
          as_aux_lemma =>
            have z0 : wB.cell? ⟨RS, 0, none⟩ = some (.slice none 0 0) := by rw [blk_cell HI2.out.bR]; rfl
            have z1 : wB.cell? ⟨RS, 1, none⟩ = some (.int .u8 0) := by rw [blk_cell HI2.out.bR]; rfl
            have z2 : wB.cell? ⟨RS, 2, none⟩ = some (.int .i64 0) := by rw [blk_cell HI2.out.bR]; rfl
            have z3 : wB.cell? ⟨RS, 3, none⟩ = some (.int .i64 0) := by rw [blk_cell HI2.out.bR]; rfl
            have lR := blk_lt HI2.out.bR
            have fR0 := blk_frozen HI2.out.bR 0
            have fR1 := blk_frozen HI2.out.bR 1
            have fR2 := blk_frozen HI2.out.bR 2
            have fR3 := blk_frozen HI2.out.bR 3
            (repeat (first | go_values | go_skip | go_guarded | go_step | go_upon))
            obtain ⟨wf, hwf⟩ : ∃ wf, wf = (((World.setCell wB ⟨RS, 0, none⟩ (.slice none 0 0)).setCell ⟨RS, 1, none⟩ (.int .u8 0)).setCell ⟨RS, 2, none⟩ (.int .i64 0)).setCell ⟨RS, 3, none⟩ (.int .i64 0) := ⟨_, rfl⟩
            have hfin := HI2.out.fin HSX.out.2.2.1 _ _ _ _ wf hwf
            rw [← hwf]
            clear hwf
            have r0 := blk_cell hfin.1 0
            have r1 := blk_cell hfin.1 1
            have r2 := blk_cell hfin.1 2
            have r3 := blk_cell hfin.1 3
            simp only [List.getElem?_toArray, List.getElem?_cons_zero, List.getElem?_cons_succ] at r0 r1 r2 r3
            refine bodyPost_ret (v := .tuple #[.agg #[.slice none 0 0, .int .u8 0, .int .i64 0, .int .i64 0], .int .i64 (i : Int), .bool false]) ?_ rfl ⟨fun _ => ⟨_, rfl⟩, fun _ _ _ h => (by rw [HO5.out] at h; cases h), hfin.2.1⟩
            simp [results, Tryd.results40, go_sem, r0, r1, r2, r3]
        | some j =>
          have hjx : j < (recAt l0 rec).f1.length := (firstIx_spec hfi).1
          rw [hfi] at hfd1
          have hO := HO4.out
          rw [hfi] at hO
          have HO5 := Lib.hid hO
          rw [show ixZ (some j) = (j : Int) from rfl, show (some j : Option Nat).isSome = true from rfl] at hfd1
          clear hfi hO
          (have hX := BelowOf.cell wr; refine wp_region_below_lit (by kernel_rfl) (by kernel_rfl) ?_; (repeat (go_big_quiet_step (exact quietLate hfd1))); refine wpQuiet_nil ?_); intro wB hw'; obtain ⟨⟨wB', hB'⟩, hw''⟩ := hw'; have hB : Below (World.heap wr).size wr wB := (by rw [hw'']; exact hB'); clear hw'' hB' hX; clear wB'; have hzB := hB.size; obtain ⟨hcB, hfB⟩ := bcell hB
          have HI2 := Lib.hid (HI.out.run hB)
          clear hB hcB hfB hzB hfd1 s0 s1 s2 lS x0 x1 x2 x3 lX fX0 fX1 fX2 fX3 z0 z1 z2 z3 lR fR0 fR1 fR2 fR3 lg y1
          as_aux_lemma =>
            have x0 : wB.cell? ⟨X, 0, none⟩ = some u := by rw [blk_cell HI2.out.bX]; rfl
            have lX := blk_lt HI2.out.bX
            go_wp2_with ((with_reducible refine gateB (b := .append) (xs := #[.tmp 71, .tmp 74]) rfl ?_); at_builtin; refine Kd.R_append kStep (w0 := w) w.heap.size rfl (.tmp 71) (.tmp 74) 52 stepT (.agg #[.int .i64 0, .bool false, .bool false, .int .i64 0]) 24 rfl Tryd.underlying52 Pf.info160 rfl (by decide) (by omega) u acc (⟨(j : Int), false, false, 0⟩ : SStep) [.int .i64 (j : Int), .bool false, .bool false, .int .i64 0] (fun _ => True) (fun _ => False) rfl rfl ?aP (fun _ hk => hk.elim) ?aF ?aO ?aB ?aS ?aL ?_)
            case aP => exact Pf.k160_mkM _ _ _ (⟨(j : Int), false, false, 0⟩ : SStep)
            case aO => exact HI2.out.row
            case aB => exact HI2.out.below
            case aS => exact HI2.out.below.size
            case aL => have := HBD.out; have := HTW.out.most; omega
            intro v3 w3 hR3 hB3 hg3 _
            obtain ⟨acc3, hacc⟩ : ∃ acc3, acc3 = acc ++ [(⟨(j : Int), false, false, 0⟩ : SStep)] := ⟨_, rfl⟩
            rw [← hacc] at hR3
            have hl3 : acc3.length = acc.length + 1 := by rw [hacc, List.length_append, List.length_singleton]
            have HL3 := Lib.hid hl3
            have hO := HO5.out
            rw [← hacc] at hO
            have HO5 := Lib.hid hO
            obtain ⟨A3, c3, rfl⟩ := Kd.R_slice hR3
            clear hacc hl3 hO
            have b3 := Go.Proofs.YtejpjclbeogajaaDoorW.PrintWords.blk_grown HI2.out.bX hg3 (Kd.R_ne HI2.out.row HI2.out.bX (by decide))
            have x0 : w3.cell? ⟨X, 0, none⟩ = some u := by rw [blk_cell b3]; rfl
            have fX0 := blk_frozen b3 0
            have lX := blk_lt b3
            have HI3 := Lib.hid (HI2.out.grown HSX.out.2.1 HSX.out.2.2.2.1 hR3 hB3 hg3)
            clear hR3 hB3 hg3 b3
            go_upto_region 8 with (fail)
            generalize w3.setCell ⟨X, 0, none⟩ (.slice A3 acc3.length c3) = w4 at *
            as_aux_lemma =>
              obtain ⟨cs, hz1, hk, hcell⟩ := HROW.out.1 rec _ (List.getElem?_eq_getElem HREC.out)
              obtain ⟨AF, cF, rfl, hz2, hF⟩ := Pf.k82_open hk
              have hrx : recAt l0 rec = l0[rec]'HREC.out := by unfold recAt; rw [List.getD_eq_getElem?_getD, List.getElem?_eq_getElem HREC.out]; rfl
              have hf1 : w.cell? ⟨q0, o0 + rec * 2 + 1, none⟩ = some (.slice AF (l0[rec]'HREC.out).f1.length cF) := by
                have := hcell 1 _ rfl
                rwa [← Nat.add_assoc] at this
              obtain ⟨xs, hxs⟩ : ∃ xs, xs = (l0[rec]'HREC.out).f1 := ⟨_, rfl⟩
              rw [← hxs] at hf1 hF
              have hrx2 : (recAt l0 rec).f1 = xs := by rw [hrx, hxs]
              rw [hrx2] at hjx
              have hsw := HSW.out rec HREC.out j
              rw [hrx2] at hsw
              have hsw := hsw hjx
              have hO := HO5.out
              rw [hrx2] at hO
              clear hcell hk hrx hxs hz1 HO5
              obtain ⟨bF, oF, hAF, hbF, hcF⟩ := C_addr hF (by omega) (by decide)
              obtain ⟨cs, hz1, hk, hcell⟩ := hcF j _ (List.getElem?_eq_getElem hjx)
              obtain rfl := Pf.k79_open hk
              rw [show Pf.k79.sz = 5 from rfl] at hcell
              have hfx : fldAt xs j = xs[j] := by unfold fldAt; rw [List.getD_eq_getElem?_getD, List.getElem?_eq_getElem hjx]; rfl
              obtain ⟨fd, hf⟩ : ∃ fd, fd = xs[j] := ⟨_, rfl⟩
              rw [← hf] at hcell hfx
              rw [hfx] at hO hsw
              have HO5 := Lib.hid hO
              have HSW2 := Lib.hid hsw
              have g1 : w4.cell? ⟨bF, oF + j * 5 + 1, none⟩ = some (.int .u8 fd.f1.f0) := cell_kept (by simpa [Nat.add_assoc] using hcell 1 _ rfl) HI3.out.below
              have g2 : w4.cell? ⟨bF, oF + j * 5 + 2, none⟩ = some (.int .i64 fd.f1.f1) := cell_kept (by simpa [Nat.add_assoc] using hcell 2 _ rfl) HI3.out.below
              have g3 : w4.cell? ⟨bF, oF + j * 5 + 3, none⟩ = some (.int .i64 fd.f1.f2) := cell_kept (by simpa [Nat.add_assoc] using hcell 3 _ rfl) HI3.out.below
              have hf1 := cell_kept hf1 HI3.out.below
              rw [hAF] at hf1
              have lbF : bF < w4.heap.size := Nat.lt_of_lt_of_le hbF HI3.out.below.size
              have lq0 : q0 < w4.heap.size := Nat.lt_of_lt_of_le HROW.out.2 HI3.out.below.size
              have hjI : (j : Int) < (xs.length : Int) := by omega
              have hxm := hF.2.1
              have hxmI : (xs.length : Int) ≤ 9223372036854775807 := by omega
              have hrI : (rec : Int) < (l0.length : Int) := by have := HREC.out; omega
              have hmI : (l0.length : Int) ≤ 9223372036854775807 := by have := HMX.out; omega
              have hcc : (l0.length : Int) ≤ (l0.length : Int) := Int.le_refl _
              have s0 : w4.cell? ⟨S, 0, none⟩ = some (.slice (some ⟨q0, o0, none⟩) l0.length c0) := by rw [blk_cell HI3.out.bS]; rfl
              have s1 : w4.cell? ⟨S, 1, none⟩ = some (.slice A1 l1.length c1) := by rw [blk_cell HI3.out.bS]; rfl
              have s2 : w4.cell? ⟨S, 2, none⟩ = some (.int .i64 (root : Int)) := by rw [blk_cell HI3.out.bS]; rfl
              have lS := blk_lt HI3.out.bS
              have x0 : w4.cell? ⟨X, 0, none⟩ = some (.slice A3 acc3.length c3) := by rw [blk_cell HI3.out.bX]; rfl
              have x1 : w4.cell? ⟨X, 1, none⟩ = some (.int .u8 (⟨k, (rec : Int), ls⟩ : STy).f0) := by rw [blk_cell HI3.out.bX]; rfl
              have x2 : w4.cell? ⟨X, 2, none⟩ = some (.int .i64 (⟨k, (rec : Int), ls⟩ : STy).f1) := by rw [blk_cell HI3.out.bX]; rfl
              have x3 : w4.cell? ⟨X, 3, none⟩ = some (.int .i64 (⟨k, (rec : Int), ls⟩ : STy).f2) := by rw [blk_cell HI3.out.bX]; rfl
              have lX := blk_lt HI3.out.bX
              have fX0 := blk_frozen HI3.out.bX 0
              have fX1 := blk_frozen HI3.out.bX 1
              have fX2 := blk_frozen HI3.out.bX 2
              have fX3 := blk_frozen HI3.out.bX 3
              clear hcell hk hz1 hf hfx hO hsw hcF hbF hxm hjx hrx2 hF hz2
              have hnb := HSX.out.2.2.2.2
              clear hcc
              go_upto_region 9 with (fail)
              have HI5 := Lib.hid (((HI3.out.set HSX.out.2.1 HSX.out.2.2.2.1 1 (.int .u8 fd.f1.f0) ⟨fd.f1.f0, (rec : Int), ls⟩ rfl).set HSX.out.2.1 HSX.out.2.2.2.1 2 (.int .i64 fd.f1.f1) ⟨fd.f1.f0, fd.f1.f1, ls⟩ rfl).set HSX.out.2.1 HSX.out.2.2.2.1 3 (.int .i64 fd.f1.f2) ⟨fd.f1.f0, fd.f1.f1, fd.f1.f2⟩ rfl)
              clear g1 g2 g3 hf1 lbF lq0 hjI hxmI hrI hmI s0 s1 s2 lS x0 x1 x2 x3 lX fX0 fX1 fX2 fX3 HI3 hAF
              generalize ((w4.setCell ⟨X, 1, none⟩ (.int .u8 fd.f1.f0)).setCell ⟨X, 2, none⟩ (.int .i64 fd.f1.f1)).setCell ⟨X, 3, none⟩ (.int .i64 fd.f1.f2) = w5 at *
              as_aux_lemma =>
                have hw64 : wrap64 ((i : Int) + 1) = ((i + 1 : Nat) : Int) := by
                  rw [show ((i : Int) + 1) = ((i + 1 : Nat) : Int) from rfl]
                  exact w64 (by have := HII.out; have := HTW.out.most; omega)
                obtain ⟨IX, hIX⟩ : ∃ IX, IX = idxF l (l.length + 1) (i + 1) fd.f1.f2 acc3 := ⟨_, rfl⟩
                have hO := HO5.out
                rw [← hIX] at hO
                have HO6 := Lib.hid hO
                have HIX := Lib.hid hIX
                clear hIX hO HO5
                go_upto_region 10 with (fail)
                go_loopw [2, 12, 13, 14, 122, 128] (fun v2 v12 v13 v14 v122 v128 wq => ∃ (i2 f2 : Nat) (ls2 : Int) (acc2 : List SStep) (u2 : Value), v2 = .int .i64 (i2 : Int) ∧ Hid (i < i2 ∧ i2 ≤ l.length ∧ l.length + 2 ≤ f2 + i2 ∧ acc2.length ≤ i2) ∧ Hid (IX = idxF l f2 i2 ls2 acc2) ∧ Hid (PthW w S X RS (.slice (some ⟨q0, o0, none⟩) l0.length c0) (.slice A1 l1.length c1) (.int .i64 (root : Int)) wq u2 ⟨fd.f1.f0, fd.f1.f1, ls2⟩ acc2)) (fun v2 _ _ _ _ _ _ => l.length + 1 - (intOf v2).toNat)
                case atStart => exact ⟨i + 1, l.length + 1, fd.f1.f2, acc3, .slice A3 acc3.length c3, by go_num, Lib.hid ⟨by omega, by have := HII.out; omega, by omega, by have := HL3.out; have := HBD.out; omega⟩, HIX, HI5⟩
                case round =>
                  clear hw64
                  obtain ⟨i2, f2, ls2, acc2, u2, rfl, HB2, HX2, HI6⟩ := hrel
                  rename World => wq
                  obtain ⟨f2, rfl⟩ : ∃ f', f2 = f' + 1 := ⟨f2 - 1, by have := HB2.out; omega⟩
                  have HTq := Lib.hid (HTI.out.kept (HI6.out.below.block g HGL.out))
                  have hcl := pathSign_calls HTq.out (by have := HTW.out.most; omega) HCG.out i2 cBra
                  rw [HNO.out i2] at hcl
                  have HCL := Lib.hid hcl
                  have hX2 : IX = some (i2, ls2, acc2) := by rw [HX2.out, idxF, if_neg (by rw [HNO.out i2]; simp)]
                  have hO := HO6.out
                  rw [hX2] at hO
                  have HO7 := Lib.hid hO
                  clear hcl hX2 hO
                  go_upto_region 25 with (first | (go_at_call 76; refine HCL.out.mono ?_; rintro e w7 ⟨rfl, hB7⟩))
                  have HI7 := Lib.hid (HI6.out.run hB7)
                  obtain ⟨A2, c2, rfl⟩ := Kd.R_slice HI7.out.row
                  clear hB7
                  as_aux_lemma =>
                    have HT7 := Lib.hid (HTI.out.kept (HI7.out.below.block g HGL.out))
                    have hcl := pathSign_calls HT7.out (by have := HTW.out.most; omega) HCG.out i2 cDot
                    have HCL7 := Lib.hid hcl
                    have x0 : w7.cell? ⟨X, 0, none⟩ = some (.slice A2 acc2.length c2) := by rw [blk_cell HI7.out.bX]; rfl
                    have lX := blk_lt HI7.out.bX
                    have hw64 : wrap64 ((i2 : Int) + 1) = ((i2 + 1 : Nat) : Int) := by
                      rw [show ((i2 : Int) + 1) = ((i2 + 1 : Nat) : Int) from rfl]
                      exact w64 (by have := HB2.out; have := HTW.out.most; omega)
                    have HW64 := Lib.hid hw64
                    clear hcl HCL HI6 HTq hw64
                    by_cases e24 : 24 < acc2.length
                    · have e24b : decide ((24 : Int) < (acc2.length : Int)) = true := decide_eq_true (by omega)
                      have HO8 := Lib.hid (show OUT = none by have := HO7.out; rw [if_pos e24] at this; exact this)
                      clear e24
                      go_upto_region 26 with (fail)
                      as_aux_lemma =>
                        clear x0 lX
                        have z0 : w7.cell? ⟨RS, 0, none⟩ = some (.slice none 0 0) := by rw [blk_cell HI7.out.bR]; rfl
                        have z1 : w7.cell? ⟨RS, 1, none⟩ = some (.int .u8 0) := by rw [blk_cell HI7.out.bR]; rfl
                        have z2 : w7.cell? ⟨RS, 2, none⟩ = some (.int .i64 0) := by rw [blk_cell HI7.out.bR]; rfl
                        have z3 : w7.cell? ⟨RS, 3, none⟩ = some (.int .i64 0) := by rw [blk_cell HI7.out.bR]; rfl
                        have lR := blk_lt HI7.out.bR
                        have fR0 := blk_frozen HI7.out.bR 0
                        have fR1 := blk_frozen HI7.out.bR 1
                        have fR2 := blk_frozen HI7.out.bR 2
                        have fR3 := blk_frozen HI7.out.bR 3
                        (repeat (first | go_values | go_skip | go_guarded | go_step | go_upon))
                        obtain ⟨wf, hwf⟩ : ∃ wf, wf = (((World.setCell w7 ⟨RS, 0, none⟩ (.slice none 0 0)).setCell ⟨RS, 1, none⟩ (.int .u8 0)).setCell ⟨RS, 2, none⟩ (.int .i64 0)).setCell ⟨RS, 3, none⟩ (.int .i64 0) := ⟨_, rfl⟩
                        have hfin := HI7.out.fin HSX.out.2.2.1 _ _ _ _ wf hwf
                        rw [← hwf]
                        clear hwf
                        have r0 := blk_cell hfin.1 0
                        have r1 := blk_cell hfin.1 1
                        have r2 := blk_cell hfin.1 2
                        have r3 := blk_cell hfin.1 3
                        simp only [List.getElem?_toArray, List.getElem?_cons_zero, List.getElem?_cons_succ] at r0 r1 r2 r3
                        refine bodyPost_ret (v := .tuple #[.agg #[.slice none 0 0, .int .u8 0, .int .i64 0, .int .i64 0], .int .i64 (i2 : Int), .bool false]) ?_ rfl ⟨fun _ => ⟨_, rfl⟩, fun _ _ _ h => (by rw [HO8.out] at h; cases h), hfin.2.1⟩
                        simp [results, Tryd.results40, go_sem, r0, r1, r2, r3]
                    · have e24b : decide ((24 : Int) < (acc2.length : Int)) = false := decide_eq_false (by omega)
                      have HO8 := Lib.hid (show OUT = if sigT l i2 cDot = true then pthF l0 l f (i2 + 1) ⟨fd.f1.f0, fd.f1.f1, ls2⟩ acc2 else some (acc2, ⟨fd.f1.f0, fd.f1.f1, ls2⟩, i2) by have := HO7.out; rw [if_neg e24] at this; exact this)
                      clear e24
                      go_upto_region 27 with (fail)
                      clear x0 lX
                      cases hsg : sigT l i2 cDot with
                      | true =>
                        as_aux_lemma =>
                          have hi2 := sigT_bd hsg
                          have HI2L := Lib.hid hi2
                          have HO9 := Lib.hid (HO8.out.trans (if_pos hsg))
                          have hcl := HCL7.out
                          rw [hsg] at hcl
                          have HCL8 := Lib.hid hcl
                          clear hsg hi2 hcl
                          have hw64 := HW64.out
                          go_wp2_with (first | (go_at_call 76; refine HCL8.out.mono ?_; rintro e w8 ⟨rfl, hB8⟩))
                          have HI8 := Lib.hid (HI7.out.run hB8)
                          go_roundw
                          case rel => exact ⟨i2 + 1, f, ⟨fd.f1.f0, fd.f1.f1, ls2⟩, acc2, .slice A2 acc2.length c2, by go_num, Lib.hid ⟨by have := HI2L.out; omega, by have := HB2.out; have := HBD.out; omega, by have := HB2.out; omega⟩, Lib.hid (fun h => HSW2.out h), HO9, HI8⟩
                          case measure =>
                            have a1 := HB2.out.1
                            have a2 := HI2L.out
                            have hw := HW64.out
                            clear hw64 hlI hiI
                            rw [hw]
                            clear hw
                            simp only [intOf, Int.toNat_natCast]
                            omega
                      | false =>
                        have HO9 := Lib.hid (HO8.out.trans (if_neg (by rw [hsg]; simp)))
                        have hcl := HCL7.out
                        rw [hsg] at hcl
                        have HCL8 := Lib.hid hcl
                        clear hsg hcl
                        go_upto_region 28 with (first | (go_at_call 76; refine HCL8.out.mono ?_; rintro e w8 ⟨rfl, hB8⟩))
                        have HI8 := Lib.hid (HI7.out.run hB8)
                        clear hB8
                        as_aux_lemma =>
                          have z0 : w8.cell? ⟨RS, 0, none⟩ = some (.slice none 0 0) := by rw [blk_cell HI8.out.bR]; rfl
                          have z1 : w8.cell? ⟨RS, 1, none⟩ = some (.int .u8 0) := by rw [blk_cell HI8.out.bR]; rfl
                          have z2 : w8.cell? ⟨RS, 2, none⟩ = some (.int .i64 0) := by rw [blk_cell HI8.out.bR]; rfl
                          have z3 : w8.cell? ⟨RS, 3, none⟩ = some (.int .i64 0) := by rw [blk_cell HI8.out.bR]; rfl
                          have lR := blk_lt HI8.out.bR
                          have fR0 := blk_frozen HI8.out.bR 0
                          have fR1 := blk_frozen HI8.out.bR 1
                          have fR2 := blk_frozen HI8.out.bR 2
                          have fR3 := blk_frozen HI8.out.bR 3
                          have x0 : w8.cell? ⟨X, 0, none⟩ = some (.slice A2 acc2.length c2) := by rw [blk_cell HI8.out.bX]; rfl
                          have x1 : w8.cell? ⟨X, 1, none⟩ = some (.int .u8 (⟨fd.f1.f0, fd.f1.f1, ls2⟩ : STy).f0) := by rw [blk_cell HI8.out.bX]; rfl
                          have x2 : w8.cell? ⟨X, 2, none⟩ = some (.int .i64 (⟨fd.f1.f0, fd.f1.f1, ls2⟩ : STy).f1) := by rw [blk_cell HI8.out.bX]; rfl
                          have x3 : w8.cell? ⟨X, 3, none⟩ = some (.int .i64 (⟨fd.f1.f0, fd.f1.f1, ls2⟩ : STy).f2) := by rw [blk_cell HI8.out.bX]; rfl
                          have lX := blk_lt HI8.out.bX
                          have fX0 := blk_frozen HI8.out.bX 0
                          have fX1 := blk_frozen HI8.out.bX 1
                          have fX2 := blk_frozen HI8.out.bX 2
                          have fX3 := blk_frozen HI8.out.bX 3
                          (repeat (first | go_values | go_skip | go_guarded | go_step | go_upon))
                          obtain ⟨wf, hwf⟩ : ∃ wf, wf = (((World.setCell w8 ⟨RS, 0, none⟩ (.slice A2 acc2.length c2)).setCell ⟨RS, 1, none⟩ (.int .u8 fd.f1.f0)).setCell ⟨RS, 2, none⟩ (.int .i64 fd.f1.f1)).setCell ⟨RS, 3, none⟩ (.int .i64 ls2) := ⟨_, rfl⟩
                          have hfin := HI8.out.fin HSX.out.2.2.1 _ _ _ _ wf hwf
                          rw [← hwf]
                          clear hwf
                          have r0 := blk_cell hfin.1 0
                          have r1 := blk_cell hfin.1 1
                          have r2 := blk_cell hfin.1 2
                          have r3 := blk_cell hfin.1 3
                          simp only [List.getElem?_toArray, List.getElem?_cons_zero, List.getElem?_cons_succ] at r0 r1 r2 r3
                          refine bodyPost_ret (v := .tuple #[.agg #[.slice A2 acc2.length c2, .int .u8 fd.f1.f0, .int .i64 fd.f1.f1, .int .i64 ls2], .int .i64 (i2 : Int), .bool true]) ?_ rfl ⟨fun h => (by rw [HO9.out] at h; cases h), fun st ty i h => ?_, hfin.2.1⟩
                          · simp [results, Tryd.results40, go_sem, r0, r1, r2, r3]
                          · rw [HO9.out] at h
                            cases h
                            obtain ⟨_, h2, h3⟩ := Kd.R_reads' hfin.2.2
                            exact ⟨A2, c2, rfl, h2, h3, fun x hx => ((Kd.R_bound hfin.2.2).1 x.block (by rw [hx]; rfl)).2.1⟩

end Go.Proofs.YtejpjclbeogajaaDoor

/-
  path.Parse: a path of a text.
-/
namespace Go.Proofs.YtejpjclbeogajaaDoor
open Go.RowKit
open Go.Proofs.YtejpjclbeogajaaDoorP
open Go.Proofs.YtejpjclbeogajaaDoorW.PrintWords (Kd blk_ne blk_far blk_put)
set_option linter.unusedVariables false
set_option linter.unusedSimpArgs false

theorem sg4_low : ∀ j, j < (⟨#[46, 91, 93, 42]⟩ : ByteArray).size → bt ⟨#[46, 91, 93, 42]⟩ j < 128 := by decide +kernel
/-- a text's tokens, where none opens an element -/
def noBra (text : ByteArray) : Prop := ∀ l, toks text ⟨#[46, 91, 93, 42]⟩ = .ok l → ∀ i, sigT l i cBra = false
structure PthEnd (w : World) (o : Option (List SStep × STy)) (e : Ending) (w' : World) : Prop where
  no : o = none → e = .returned (.tuple #[.agg #[.slice none 0 0, .int .u8 0, .int .i64 0, .int .i64 0], .int .i64 31])
  yes : ∀ st ty, o = some (st, ty) → ∃ A c, e = .returned (.tuple #[.agg #[.slice A st.length c, .int .u8 ty.f0, .int .i64 ty.f1, .int .i64 ty.f2], .int .i64 0]) ∧ st.length ≤ c ∧ Kd.C kStep w' A st.length st
  below : Below w.heap.size w w'
/-- the result's variable, written over -/
theorem fin_blk {w wr : World} {RS : Nat} (hB : Below w.heap.size w wr) (hb : wr.heap[RS]? = some (.cells #[.slice none 0 0, .int .u8 0, .int .i64 0, .int .i64 0] pathT (0, 0))) (hRS : w.heap.size ≤ RS) (a b c d : Value) (W4 : World) (hW : W4 = (((wr.setCell ⟨RS, 0, none⟩ a).setCell ⟨RS, 1, none⟩ b).setCell ⟨RS, 2, none⟩ c).setCell ⟨RS, 3, none⟩ d) :
    W4.heap[RS]? = some (.cells #[a, b, c, d] pathT (0, 0)) ∧ Below w.heap.size w W4 ∧ Below RS wr W4 := by
  subst hW
  have b0 := blk_put hb (cs' := #[a, .int .u8 0, .int .i64 0, .int .i64 0]) 0 a rfl
  have b1 := blk_put b0 (cs' := #[a, b, .int .i64 0, .int .i64 0]) 1 b rfl
  have b2 := blk_put b1 (cs' := #[a, b, c, .int .i64 0]) 2 c rfl
  have b3 := blk_put b2 (cs' := #[a, b, c, d]) 3 d rfl
  refine ⟨b3, (((hB.setCell hRS _).setCell hRS _).setCell hRS _).setCell hRS _, ?_⟩
  have k0 : Below RS wr (wr.setCell ⟨RS, 0, none⟩ a) := (Below.refl RS wr).setCell (p := ⟨RS, 0, none⟩) (Nat.le_refl RS) a
  have k1 := k0.setCell (p := ⟨RS, 1, none⟩) (Nat.le_refl RS) b
  have k2 := k1.setCell (p := ⟨RS, 2, none⟩) (Nat.le_refl RS) c
  exact k2.setCell (p := ⟨RS, 3, none⟩) (Nat.le_refl RS) d
set_option maxHeartbeats 4000000 in
set_option maxRecDepth 100000 in
theorem pthParse_calls (l0 : List SRec) (l1 : List SCho) (A0 A1 : Option Addr) (c0 c1 : Nat) (root : Nat) (hw : SchW l0) (hroot : root < l0.length) (text : ByteArray) (ht : text.size ≤ 140737488351232) (hno : noBra text) (w : World) (h0 : Kd.C Pf.k82 w A0 l0.length l0) :
    Calls Tryd.prog 14 #[.agg #[.slice A0 l0.length c0, .slice A1 l1.length c1, .int .i64 (root : Int)], .string text] w (PthEnd w (pthI l0 root text)) := by
  obtain ⟨w1, hw1⟩ : ∃ w1, w1 = (w.alloc (Obj.cells #[.slice A0 l0.length c0, .slice A1 l1.length c1, .int .i64 (root : Int)] 32)).alloc (.cells #[.slice none 0 0, .int .u8 0, .int .i64 0, .int .i64 0] pathT) := ⟨_, rfl⟩
  have hb1 : Below w.heap.size w w1 := by rw [hw1]; (repeat' (first | (with_reducible exact Below.refl _ _) | (with_reducible assumption) | (with_reducible refine Below.alloc ?_ ?_ _) | (with_reducible refine Below.drew ?_) | (with_reducible refine Below.setCell ?_ ?_ _) | (with_reducible refine Below.trans ?_ (Below.mono (by assumption) ?_)) | go_size))
  obtain ⟨S, hS⟩ : ∃ S, S = w.heap.size := ⟨_, rfl⟩
  obtain ⟨RS, hRS⟩ : ∃ RS, RS = S + 1 := ⟨_, rfl⟩
  have bS : w1.heap[S]? = some (.cells #[.slice A0 l0.length c0, .slice A1 l1.length c1, .int .i64 (root : Int)] 32 (0, 0)) := by rw [hw1, hS]; exact blk_below (blk_new _ _) (below1 _ _) (by simp)
  have bR : w1.heap[RS]? = some (.cells #[.slice none 0 0, .int .u8 0, .int .i64 0, .int .i64 0] pathT (0, 0)) := by rw [hw1, hRS, hS]; exact (by simp : ((w.alloc _).heap.size = w.heap.size + 1)) ▸ blk_new _ _
  have HSL := Lib.hid (show w.heap.size ≤ S ∧ w.heap.size ≤ RS from ⟨by omega, by omega⟩)
  have HB1 := Lib.hid hb1
  have HBS := Lib.hid bS
  have HBR := Lib.hid bR
  have HSW := Lib.hid hw
  have HRT := Lib.hid hroot
  have HC0 := Lib.hid h0
  have HTS := Lib.hid ht
  have HNO := Lib.hid hno
  have hpi : pthI l0 root text = match toks text ⟨#[46, 91, 93, 42]⟩ with
    | .error _ => none
    | .ok l => if 1024 < text.size then none else match pthO l0 root l 0 with
      | none => none
      | some (st, ty, i) => if kindT l i = 0 then some (st, ty) else none := rfl
  have HPI := Lib.hid hpi
  clear hb1 bS bR hw hroot h0 ht hpi hno
  generalize pthI l0 root text = OUT at *
  go_enter Tryd.func14, Tryd.ntmps14
  go_upto_region 1 with (fail)
  rw [← hw1, ← hS, ← hRS]
  clear hw1 hS hRS
  go_wp2_with fail
  refine (tokens_calls text ⟨#[46, 91, 93, 42]⟩ w1 HTS.out sg4_low).mono ?_
  intro e w2 hp
  unfold TokensPost at hp
  cases htk : toks text ⟨#[46, 91, 93, 42]⟩ with
  | error x =>
    obtain ⟨c, p⟩ := x
    rw [htk] at hp
    obtain ⟨hB2, rfl⟩ := hp
    have hc : c ≠ 0 := fun e => by subst e; exact toksL_err _ _ _ htk
    have HO := Lib.hid (HPI.out.trans (by rw [htk]))
    have HB2 := Lib.hid (HB1.out.trans (hB2.mono HB1.out.size))
    have HBR2 := Lib.hid (blk_below HBR.out hB2 (blk_lt HBR.out))
    have hcb : (c != 0) = true := bne_iff_ne.2 hc
    clear hB2 htk hc HPI HNO
    go_upto_region 3 with (fail)
    obtain ⟨w3, hw3⟩ : ∃ w3, w3 = w2.alloc (Obj.cells #[.int .i64 c, .int .i64 (p : Int)] 95) := ⟨_, rfl⟩
    have hb3 : Below w2.heap.size w2 w3 := by rw [hw3]; exact below1 _ _
    rw [← hw3]
    have HB3 := Lib.hid (HB2.out.trans (hb3.mono HB2.out.size))
    have HBR3 := Lib.hid (blk_below HBR2.out hb3 (blk_lt HBR2.out))
    clear hw3 hb3
    have z0 : w3.cell? ⟨RS, 0, none⟩ = some (.slice none 0 0) := by rw [blk_cell HBR3.out]; rfl
    have z1 : w3.cell? ⟨RS, 1, none⟩ = some (.int .u8 0) := by rw [blk_cell HBR3.out]; rfl
    have z2 : w3.cell? ⟨RS, 2, none⟩ = some (.int .i64 0) := by rw [blk_cell HBR3.out]; rfl
    have z3 : w3.cell? ⟨RS, 3, none⟩ = some (.int .i64 0) := by rw [blk_cell HBR3.out]; rfl
    have lR := blk_lt HBR3.out
    have fR0 := blk_frozen HBR3.out 0
    have fR1 := blk_frozen HBR3.out 1
    have fR2 := blk_frozen HBR3.out 2
    have fR3 := blk_frozen HBR3.out 3
    (repeat (first | go_values | go_skip | go_guarded | go_step | go_upon))
    obtain ⟨wf, hwf⟩ : ∃ wf, wf = (((World.setCell w3 ⟨RS, 0, none⟩ (.slice none 0 0)).setCell ⟨RS, 1, none⟩ (.int .u8 0)).setCell ⟨RS, 2, none⟩ (.int .i64 0)).setCell ⟨RS, 3, none⟩ (.int .i64 0) := ⟨_, rfl⟩
    have hfin := fin_blk (w := w) HB3.out HBR3.out HSL.out.2 _ _ _ _ wf hwf
    rw [← hwf]
    clear hwf
    have r0 := blk_cell hfin.1 0
    have r1 := blk_cell hfin.1 1
    have r2 := blk_cell hfin.1 2
    have r3 := blk_cell hfin.1 3
    simp only [List.getElem?_toArray, List.getElem?_cons_zero, List.getElem?_cons_succ] at r0 r1 r2 r3
    refine bodyPost_ret (v := .tuple #[.agg #[.slice none 0 0, .int .u8 0, .int .i64 0, .int .i64 0], .int .i64 31]) ?_ rfl ⟨fun _ => rfl, fun _ _ h => (by rw [HO.out] at h; cases h), hfin.2.1⟩
    simp [results, Tryd.results14, go_sem, r0, r1, r2, r3]
  | ok l =>
    rw [htk] at hp
    obtain ⟨hB2, v, rfl, hown⟩ := hp
    have hTW := toks_W htk
    have HTW := Lib.hid hTW
    have HNO2 := Lib.hid (HNO.out l htk)
    have hO : OUT = if 1024 < text.size then none else match pthO l0 root l 0 with
      | none => none
      | some (st, ty, i) => if kindT l i = 0 then some (st, ty) else none := HPI.out.trans (by rw [htk])
    have HO := Lib.hid hO
    have HB2 := Lib.hid (HB1.out.trans (hB2.mono HB1.out.size))
    have HBS2 := Lib.hid (blk_below HBS.out hB2 (blk_lt HBS.out))
    have HBR2 := Lib.hid (blk_below HBR.out hB2 (blk_lt HBR.out))
    obtain ⟨g, cg, rfl, hcg⟩ : ∃ g cg, v = .slice (some ⟨g, 0, none⟩) l.length cg ∧ l.length ≤ cg := by
      obtain ⟨A, c, rfl, hc, _⟩ := Kd.R_reads (toks_R hown)
      rw [List.length_map] at hown hc ⊢
      obtain ⟨g, hg, _⟩ := tokRow_owned hown hTW.pos
      exact ⟨g, c, by rw [hg], hc⟩
    have hTI : ToksIn w2 g l := by
      obtain ⟨g', hg, ht⟩ := tokRow_owned hown hTW.pos
      cases hg
      exact ht
    have HTI := Lib.hid hTI
    have HCG := Lib.hid hcg
    clear hB2 htk hTW hO hown HPI hTI hcg HNO
    obtain ⟨w3, hw3⟩ : ∃ w3, w3 = w2.alloc (Obj.cells #[.int .i64 0, .int .i64 0] 95) := ⟨_, rfl⟩
    have hb3 : Below w2.heap.size w2 w3 := by rw [hw3]; exact below1 _ _
    have HB3 := Lib.hid (HB2.out.trans (hb3.mono HB2.out.size))
    have hBS3 := blk_below HBS2.out hb3 (blk_lt HBS2.out)
    have HBR3 := Lib.hid (blk_below HBR2.out hb3 (blk_lt HBR2.out))
    have HTI3 := Lib.hid (HTI.out.kept (hb3.block g (HTI.out.lt HTW.out.pos)))
    by_cases hz : 1024 < text.size
    · have hzd : decide ((1024 : Int) < (text.size : Int)) = true := decide_eq_true (by omega)
      have HO2 := Lib.hid (HO.out.trans (if_pos hz))
      clear hz hb3 hBS3
      go_upto_region 3 with (fail)
      rw [← hw3]
      clear hw3
      have z0 : w3.cell? ⟨RS, 0, none⟩ = some (.slice none 0 0) := by rw [blk_cell HBR3.out]; rfl
      have z1 : w3.cell? ⟨RS, 1, none⟩ = some (.int .u8 0) := by rw [blk_cell HBR3.out]; rfl
      have z2 : w3.cell? ⟨RS, 2, none⟩ = some (.int .i64 0) := by rw [blk_cell HBR3.out]; rfl
      have z3 : w3.cell? ⟨RS, 3, none⟩ = some (.int .i64 0) := by rw [blk_cell HBR3.out]; rfl
      have lR := blk_lt HBR3.out
      have fR0 := blk_frozen HBR3.out 0
      have fR1 := blk_frozen HBR3.out 1
      have fR2 := blk_frozen HBR3.out 2
      have fR3 := blk_frozen HBR3.out 3
      (repeat (first | go_values | go_skip | go_guarded | go_step | go_upon))
      obtain ⟨wf, hwf⟩ : ∃ wf, wf = (((World.setCell w3 ⟨RS, 0, none⟩ (.slice none 0 0)).setCell ⟨RS, 1, none⟩ (.int .u8 0)).setCell ⟨RS, 2, none⟩ (.int .i64 0)).setCell ⟨RS, 3, none⟩ (.int .i64 0) := ⟨_, rfl⟩
      have hfin := fin_blk (w := w) HB3.out HBR3.out HSL.out.2 _ _ _ _ wf hwf
      rw [← hwf]
      clear hwf
      have r0 := blk_cell hfin.1 0
      have r1 := blk_cell hfin.1 1
      have r2 := blk_cell hfin.1 2
      have r3 := blk_cell hfin.1 3
      simp only [List.getElem?_toArray, List.getElem?_cons_zero, List.getElem?_cons_succ] at r0 r1 r2 r3
      refine bodyPost_ret (v := .tuple #[.agg #[.slice none 0 0, .int .u8 0, .int .i64 0, .int .i64 0], .int .i64 31]) ?_ rfl ⟨fun _ => rfl, fun _ _ h => (by rw [HO2.out] at h; cases h), hfin.2.1⟩
      simp [results, Tryd.results14, go_sem, r0, r1, r2, r3]
    · have hzd : decide ((1024 : Int) < (text.size : Int)) = false := decide_eq_false (by omega)
      have HO2 := Lib.hid (HO.out.trans (if_neg hz))
      clear hz HO
      go_upto_region 4 with (fail)
      rw [← hw3]
      have s0 : w3.cell? ⟨S, 0, none⟩ = some (.slice A0 l0.length c0) := by rw [blk_cell hBS3]; rfl
      have s1 : w3.cell? ⟨S, 1, none⟩ = some (.slice A1 l1.length c1) := by rw [blk_cell hBS3]; rfl
      have s2 : w3.cell? ⟨S, 2, none⟩ = some (.int .i64 (root : Int)) := by rw [blk_cell hBS3]; rfl
      have lS := blk_lt hBS3
      clear hw3 hb3 hBS3
      have hcl := pthOf_calls l0 l1 A0 A1 c0 c1 root HSW.out HRT.out l g cg HTW.out HCG.out HNO2.out 0 (Nat.zero_le _) w3 (Kd.C_below HC0.out HB3.out) HTI3.out
      have HCL := Lib.hid hcl
      clear hcl
      go_wp2_with fail
      refine HCL.out.mono ?_
      intro e w4 hp
      have HB4 := Lib.hid (HB3.out.trans (hp.below.mono HB3.out.size))
      have HBR4 := Lib.hid (blk_below HBR3.out hp.below (blk_lt HBR3.out))
      have hTI4 := HTI3.out.kept (hp.below.block g (HTI3.out.lt HTW.out.pos))
      clear s0 s1 s2 lS
      cases hof : pthO l0 root l 0 with
      | none =>
        obtain ⟨x, rfl⟩ := hp.no hof
        have HO3 := Lib.hid (HO2.out.trans (by rw [hof]))
        clear hp hof hTI4
        go_upto_region 6 with (fail)
        obtain ⟨w5, hw5⟩ : ∃ w5, w5 = w4.alloc (Obj.cells #[.slice none 0 0, .int .u8 0, .int .i64 0, .int .i64 0] pathT) := ⟨_, rfl⟩
        have hb5 : Below w4.heap.size w4 w5 := by rw [hw5]; exact below1 _ _
        have HB5 := Lib.hid (HB4.out.trans (hb5.mono HB4.out.size))
        have HBR5 := Lib.hid (blk_below HBR4.out hb5 (blk_lt HBR4.out))
        rw [← hw5]
        clear hw5 hb5
        have z0 : w5.cell? ⟨RS, 0, none⟩ = some (.slice none 0 0) := by rw [blk_cell HBR5.out]; rfl
        have z1 : w5.cell? ⟨RS, 1, none⟩ = some (.int .u8 0) := by rw [blk_cell HBR5.out]; rfl
        have z2 : w5.cell? ⟨RS, 2, none⟩ = some (.int .i64 0) := by rw [blk_cell HBR5.out]; rfl
        have z3 : w5.cell? ⟨RS, 3, none⟩ = some (.int .i64 0) := by rw [blk_cell HBR5.out]; rfl
        have lR := blk_lt HBR5.out
        have fR0 := blk_frozen HBR5.out 0
        have fR1 := blk_frozen HBR5.out 1
        have fR2 := blk_frozen HBR5.out 2
        have fR3 := blk_frozen HBR5.out 3
        (repeat (first | go_values | go_skip | go_guarded | go_step | go_upon))
        obtain ⟨wf, hwf⟩ : ∃ wf, wf = (((World.setCell w5 ⟨RS, 0, none⟩ (.slice none 0 0)).setCell ⟨RS, 1, none⟩ (.int .u8 0)).setCell ⟨RS, 2, none⟩ (.int .i64 0)).setCell ⟨RS, 3, none⟩ (.int .i64 0) := ⟨_, rfl⟩
        have hfin := fin_blk (w := w) HB5.out HBR5.out HSL.out.2 _ _ _ _ wf hwf
        rw [← hwf]
        clear hwf
        have r0 := blk_cell hfin.1 0
        have r1 := blk_cell hfin.1 1
        have r2 := blk_cell hfin.1 2
        have r3 := blk_cell hfin.1 3
        simp only [List.getElem?_toArray, List.getElem?_cons_zero, List.getElem?_cons_succ] at r0 r1 r2 r3
        refine bodyPost_ret (v := .tuple #[.agg #[.slice none 0 0, .int .u8 0, .int .i64 0, .int .i64 0], .int .i64 31]) ?_ rfl ⟨fun _ => rfl, fun _ _ h => (by rw [HO3.out] at h; cases h), hfin.2.1⟩
        simp [results, Tryd.results14, go_sem, r0, r1, r2, r3]
      | some y =>
        obtain ⟨st, ty, i⟩ := y
        obtain ⟨A, c, rfl, hc, hC, hA⟩ := hp.yes st ty i hof
        have hi : i < l.length := pthF_lt HTW.out _ _ _ _ hof
        have hO3 : OUT = if kindT l i = 0 then some (st, ty) else none := HO2.out.trans (by rw [hof])
        have HO3 := Lib.hid hO3
        have HC := Lib.hid (And.intro hc (And.intro hC hA))
        obtain ⟨w5, hw5⟩ : ∃ w5, w5 = w4.alloc (Obj.cells #[.slice A st.length c, .int .u8 ty.f0, .int .i64 ty.f1, .int .i64 ty.f2] pathT) := ⟨_, rfl⟩
        have hb5 : Below w4.heap.size w4 w5 := by rw [hw5]; exact below1 _ _
        have HB5 := Lib.hid (HB4.out.trans (hb5.mono HB4.out.size))
        have HBR5 := Lib.hid (blk_below HBR4.out hb5 (blk_lt HBR4.out))
        have HC5 := Lib.hid (Kd.C_below hC hb5)
        have hTI5 := hTI4.kept (hb5.block g (hTI4.lt HTW.out.pos))
        have HR3 := Lib.hid (show RS < w3.heap.size from blk_lt HBR3.out)
        obtain ⟨X, hX⟩ : ∃ X, X = w4.heap.size := ⟨_, rfl⟩
        have bX : w5.heap[X]? = some (.cells #[.slice A st.length c, .int .u8 ty.f0, .int .i64 ty.f1, .int .i64 ty.f2] pathT (0, 0)) := by rw [hw5, hX]; exact blk_new _ _
        have HBX := Lib.hid bX
        have hXR : X ≠ RS := by have := blk_lt HBR4.out; omega
        obtain ⟨z0, _, _⟩ := hTI5 i hi
        rw [show ((l[i]?).getD tok0).kind = kindT l i from rfl] at z0
        have lg := hTI5.lt HTW.out.pos
        have hiI : (i : Int) < (l.length : Int) := by omega
        have hlI : (l.length : Int) ≤ 2048 := by have := HTW.out.most; omega
        clear hp hof hO3 hc hC hA hTI4 hTI5 bX
        go_upto_region 5 with (fail)
        rw [← hw5, ← hX]
        clear hw5 hb5 hX hi
        by_cases k0 : kindT l i = 0
        · have HO4 := Lib.hid (HO3.out.trans (if_pos k0))
          rw [k0] at z0
          clear k0
          go_upto_region 7 with (fail)
          clear z0 lg
          have z0 : w5.cell? ⟨RS, 0, none⟩ = some (.slice none 0 0) := by rw [blk_cell HBR5.out]; rfl
          have z1 : w5.cell? ⟨RS, 1, none⟩ = some (.int .u8 0) := by rw [blk_cell HBR5.out]; rfl
          have z2 : w5.cell? ⟨RS, 2, none⟩ = some (.int .i64 0) := by rw [blk_cell HBR5.out]; rfl
          have z3 : w5.cell? ⟨RS, 3, none⟩ = some (.int .i64 0) := by rw [blk_cell HBR5.out]; rfl
          have lR := blk_lt HBR5.out
          have fR0 := blk_frozen HBR5.out 0
          have fR1 := blk_frozen HBR5.out 1
          have fR2 := blk_frozen HBR5.out 2
          have fR3 := blk_frozen HBR5.out 3
          have x0 : w5.cell? ⟨X, 0, none⟩ = some (.slice A st.length c) := by rw [blk_cell HBX.out]; rfl
          have x1 : w5.cell? ⟨X, 1, none⟩ = some (.int .u8 ty.f0) := by rw [blk_cell HBX.out]; rfl
          have x2 : w5.cell? ⟨X, 2, none⟩ = some (.int .i64 ty.f1) := by rw [blk_cell HBX.out]; rfl
          have x3 : w5.cell? ⟨X, 3, none⟩ = some (.int .i64 ty.f2) := by rw [blk_cell HBX.out]; rfl
          have lX := blk_lt HBX.out
          (repeat (first | go_values | go_skip | go_guarded | go_step | go_upon))
          obtain ⟨wf, hwf⟩ : ∃ wf, wf = (((World.setCell w5 ⟨RS, 0, none⟩ (.slice A st.length c)).setCell ⟨RS, 1, none⟩ (.int .u8 ty.f0)).setCell ⟨RS, 2, none⟩ (.int .i64 ty.f1)).setCell ⟨RS, 3, none⟩ (.int .i64 ty.f2) := ⟨_, rfl⟩
          have hfin := fin_blk (w := w) HB5.out HBR5.out HSL.out.2 _ _ _ _ wf hwf
          have hkeep : ∀ k, k ≠ RS → wf.heap[k]? = w5.heap[k]? := by
            intro k hk
            rw [hwf]
            refine (Below.heap_setCell _ _ _ k hk).trans ((Below.heap_setCell _ _ _ k hk).trans ((Below.heap_setCell _ _ _ k hk).trans (Below.heap_setCell _ _ _ k hk)))
          rw [← hwf]
          clear hwf
          have r0 := blk_cell hfin.1 0
          have r1 := blk_cell hfin.1 1
          have r2 := blk_cell hfin.1 2
          have r3 := blk_cell hfin.1 3
          simp only [List.getElem?_toArray, List.getElem?_cons_zero, List.getElem?_cons_succ] at r0 r1 r2 r3
          refine bodyPost_ret (v := .tuple #[.agg #[.slice A st.length c, .int .u8 ty.f0, .int .i64 ty.f1, .int .i64 ty.f2], .int .i64 0]) ?_ rfl ⟨fun h => (by rw [HO4.out] at h; cases h), fun st' ty' h => ?_, hfin.2.1⟩
          · simp [results, Tryd.results14, go_sem, r0, r1, r2, r3]
          · rw [HO4.out] at h
            cases h
            exact ⟨A, c, rfl, HC.out.1, steps_kept HC5.out fun x hx => hkeep _ (by have := HC.out.2.2 x hx; have := HR3.out; omega)⟩
        · have k0b : (kindT l i != 0) = true := bne_iff_ne.2 k0
          have HO4 := Lib.hid (HO3.out.trans (if_neg k0))
          clear k0
          go_upto_region 6 with (fail)
          clear z0 lg
          have z0 : w5.cell? ⟨RS, 0, none⟩ = some (.slice none 0 0) := by rw [blk_cell HBR5.out]; rfl
          have z1 : w5.cell? ⟨RS, 1, none⟩ = some (.int .u8 0) := by rw [blk_cell HBR5.out]; rfl
          have z2 : w5.cell? ⟨RS, 2, none⟩ = some (.int .i64 0) := by rw [blk_cell HBR5.out]; rfl
          have z3 : w5.cell? ⟨RS, 3, none⟩ = some (.int .i64 0) := by rw [blk_cell HBR5.out]; rfl
          have lR := blk_lt HBR5.out
          have fR0 := blk_frozen HBR5.out 0
          have fR1 := blk_frozen HBR5.out 1
          have fR2 := blk_frozen HBR5.out 2
          have fR3 := blk_frozen HBR5.out 3
          (repeat (first | go_values | go_skip | go_guarded | go_step | go_upon))
          obtain ⟨wf, hwf⟩ : ∃ wf, wf = (((World.setCell w5 ⟨RS, 0, none⟩ (.slice none 0 0)).setCell ⟨RS, 1, none⟩ (.int .u8 0)).setCell ⟨RS, 2, none⟩ (.int .i64 0)).setCell ⟨RS, 3, none⟩ (.int .i64 0) := ⟨_, rfl⟩
          have hfin := fin_blk (w := w) HB5.out HBR5.out HSL.out.2 _ _ _ _ wf hwf
          rw [← hwf]
          clear hwf
          have r0 := blk_cell hfin.1 0
          have r1 := blk_cell hfin.1 1
          have r2 := blk_cell hfin.1 2
          have r3 := blk_cell hfin.1 3
          simp only [List.getElem?_toArray, List.getElem?_cons_zero, List.getElem?_cons_succ] at r0 r1 r2 r3
          refine bodyPost_ret (v := .tuple #[.agg #[.slice none 0 0, .int .u8 0, .int .i64 0, .int .i64 0], .int .i64 31]) ?_ rfl ⟨fun _ => rfl, fun _ _ h => (by rw [HO4.out] at h; cases h), hfin.2.1⟩
          simp [results, Tryd.results14, go_sem, r0, r1, r2, r3]

end Go.Proofs.YtejpjclbeogajaaDoor

/-
  Chapter 20's examples, by the program.
-/
namespace Go.Proofs.YtejpjclbeogajaaDoor
open Go.RowKit
open Go.Proofs.YtejpjclbeogajaaDoorP
open Go.Proofs.YtejpjclbeogajaaDoorW.PrintWords (Kd)
set_option linter.unusedVariables false
set_option linter.unusedSimpArgs false

def f20 : Array Value := #[.string ⟨#[97]⟩, .int .u8 13, .int .i64 1, .int .i64 0, .int .u64 0, .string ⟨#[121]⟩, .int .u8 6, .int .i64 0, .int .i64 0, .int .u64 0]
def f20b : Array Value := #[.string ⟨#[120]⟩, .int .u8 6, .int .i64 0, .int .i64 0, .int .u64 0]
set_option maxHeartbeats 4000000 in
set_option maxRecDepth 100000 in
theorem awake20_calls (w : World) : Calls Tryd.prog 7 #[] w fun e w' => e = .returned (.bool true) ∧ Below w.heap.size w w' := by
  go_enter Tryd.func7, Tryd.ntmps7
  go_upto_region 3 with (fail)
  have z1 : (w.alloc (Obj.cells #[.int .u8 6, .int .i64 0, .int .i64 0] 49)).heap.size = w.heap.size + 1 := by simp
  obtain ⟨w1, h1⟩ : ∃ w1, w1 = w.alloc (Obj.cells #[.int .u8 6, .int .i64 0, .int .i64 0] 49) := ⟨_, rfl⟩
  rw [← h1] at z1
  obtain ⟨w2, h2⟩ : ∃ w2, w2 = w1.alloc (Obj.cells #[.string ⟨#[97]⟩, .int .u8 13, .int .i64 1, .int .i64 0, .int .u64 0, .string ⟨#[121]⟩, .int .u8 6, .int .i64 0, .int .i64 0, .int .u64 0] 79) := ⟨_, rfl⟩
  obtain ⟨w3, h3⟩ : ∃ w3, w3 = w2.alloc (Obj.cells #[.string ⟨#[120]⟩, .int .u8 6, .int .i64 0, .int .i64 0, .int .u64 0] 79) := ⟨_, rfl⟩
  obtain ⟨w4, h4⟩ : ∃ w4, w4 = w3.alloc (Obj.cells #[.string ⟨#[82]⟩, .slice (some ⟨w.heap.size + 1, 0, none⟩) 2 2, .string ⟨#[65]⟩, .slice (some ⟨w.heap.size + 1 + 1, 0, none⟩) 1 1] 82) := ⟨_, rfl⟩
  obtain ⟨w5, h5⟩ : ∃ w5, w5 = w4.alloc (Obj.cells #[.slice (some ⟨w.heap.size + 1 + 1 + 1, 0, none⟩) 2 2, .slice none 0 0, .int .i64 0] 32) := ⟨_, rfl⟩
  have z2 : w2.heap.size = w.heap.size + 1 + 1 := by rw [h2, ← z1]; simp
  have z3 : w3.heap.size = w.heap.size + 1 + 1 + 1 := by rw [h3, ← z2]; simp
  have z4 : w4.heap.size = w.heap.size + 1 + 1 + 1 + 1 := by rw [h4, ← z3]; simp
  have z5 : w5.heap.size = w.heap.size + 1 + 1 + 1 + 1 + 1 := by rw [h5, ← z4]; simp
  have n1 : Below w.heap.size w w1 := by rw [h1]; exact below1 _ _
  have n2 : Below w1.heap.size w1 w2 := by rw [h2]; exact below1 _ _
  have n3 : Below w2.heap.size w2 w3 := by rw [h3]; exact below1 _ _
  have n4 : Below w3.heap.size w3 w4 := by rw [h4]; exact below1 _ _
  have n5 : Below w4.heap.size w4 w5 := by rw [h5]; exact below1 _ _
  have b1 := h2 ▸ blk_new w1 (Obj.cells #[.string ⟨#[97]⟩, .int .u8 13, .int .i64 1, .int .i64 0, .int .u64 0, .string ⟨#[121]⟩, .int .u8 6, .int .i64 0, .int .i64 0, .int .u64 0] 79)
  have b2 := h3 ▸ blk_new w2 (Obj.cells #[.string ⟨#[120]⟩, .int .u8 6, .int .i64 0, .int .i64 0, .int .u64 0] 79)
  have b3 := h4 ▸ blk_new w3 (Obj.cells #[.string ⟨#[82]⟩, .slice (some ⟨w.heap.size + 1, 0, none⟩) 2 2, .string ⟨#[65]⟩, .slice (some ⟨w.heap.size + 1 + 1, 0, none⟩) 1 1] 82)
  have b4 := h5 ▸ blk_new w4 (Obj.cells #[.slice (some ⟨w.heap.size + 1 + 1 + 1, 0, none⟩) 2 2, .slice none 0 0, .int .i64 0] 32)
  have b1 := blk_below (blk_below (blk_below b1 n3 (blk_lt b1)) n4 (by omega)) n5 (by omega)
  have b2 := blk_below (blk_below b2 n4 (blk_lt b2)) n5 (by omega)
  have b3 := blk_below b3 n5 (blk_lt b3)
  rw [z1] at b1
  rw [z2] at b2
  rw [z3] at b3
  rw [z4] at b4
  have hB5 : Below w.heap.size w w5 := n1.trans (((n2.trans ((n3.trans ((n4.trans (n5.mono (by omega))).mono (by omega))).mono (by omega)))).mono (by omega))
  rw [← h1, ← h2, ← h3, ← h4, ← h5]
  obtain ⟨S, hS⟩ : ∃ S, S = w.heap.size + 1 + 1 + 1 + 1 := ⟨_, rfl⟩
  obtain ⟨R, hR⟩ : ∃ R, R = w.heap.size + 1 + 1 + 1 := ⟨_, rfl⟩
  obtain ⟨F2, hF2⟩ : ∃ F2, F2 = w.heap.size + 1 + 1 := ⟨_, rfl⟩
  obtain ⟨F1, hF1⟩ : ∃ F1, F1 = w.heap.size + 1 := ⟨_, rfl⟩
  rw [← hS, ← hR] at b4
  rw [← hR, ← hF2, ← hF1] at b3
  rw [← hF2] at b2
  rw [← hF1] at b1
  rw [← hS, ← hR, ← hF2, ← hF1]
  clear h1 h2 h3 h4 h5 z1 z2 z3 z4 z5 n1 n2 n3 n4 n5 hS hR hF2 hF1
  have hC : Kd.C Pf.k82 w5 (some ⟨R, 0, none⟩) 2 l20 := by
    refine C_mk (xs := l20) (by decide) fun _ => ⟨R, 0, rfl, fun j p hj => ?_⟩
    match j, hj with
    | 0, hj =>
      obtain rfl := Option.some.inj hj
      refine ⟨_, Pf.k82_mk w5 _ (A1 := some ⟨F1, 0, none⟩) (c1 := 2) (by decide) ?_, fun i u hi => ?_⟩
      · refine C_mk (by decide) fun _ => ⟨F1, 0, rfl, fun j p hj => ?_⟩
        match j, hj with
        | 0, hj =>
          obtain rfl := Option.some.inj hj
          refine ⟨_, Pf.k79_mk w5 _, fun i u hi => ?_⟩
          rw [blk_cell b1]
          match i, hi with
          | 0, hi => exact hi
          | 1, hi => exact hi
          | 2, hi => exact hi
          | 3, hi => exact hi
          | 4, hi => exact hi
          | i + 5, hi => simp at hi
        | 1, hj =>
          obtain rfl := Option.some.inj hj
          refine ⟨_, Pf.k79_mk w5 _, fun i u hi => ?_⟩
          rw [blk_cell b1]
          match i, hi with
          | 0, hi => exact hi
          | 1, hi => exact hi
          | 2, hi => exact hi
          | 3, hi => exact hi
          | 4, hi => exact hi
          | i + 5, hi => simp at hi
        | j + 2, hj => cases hj
      · rw [blk_cell b3]
        match i, hi with
        | 0, hi => exact hi
        | 1, hi => exact hi
        | i + 2, hi => simp at hi
    | 1, hj =>
      obtain rfl := Option.some.inj hj
      refine ⟨_, Pf.k82_mk w5 _ (A1 := some ⟨F2, 0, none⟩) (c1 := 1) (by decide) ?_, fun i u hi => ?_⟩
      · refine C_mk (by decide) fun _ => ⟨F2, 0, rfl, fun j p hj => ?_⟩
        match j, hj with
        | 0, hj =>
          obtain rfl := Option.some.inj hj
          refine ⟨_, Pf.k79_mk w5 _, fun i u hi => ?_⟩
          rw [blk_cell b2]
          match i, hi with
          | 0, hi => exact hi
          | 1, hi => exact hi
          | 2, hi => exact hi
          | 3, hi => exact hi
          | 4, hi => exact hi
          | i + 5, hi => simp at hi
        | j + 1, hj => cases hj
      · rw [blk_cell b3]
        match i, hi with
        | 0, hi => exact hi
        | 1, hi => exact hi
        | i + 2, hi => simp at hi
    | j + 2, hj => cases hj
  clear b1 b2 b3
  have HC := Lib.hid hC
  have HB5 := Lib.hid hB5
  have HS := Lib.hid b4
  have s0 : w5.cell? ⟨S, 0, none⟩ = some (.slice (some ⟨R, 0, none⟩) 2 2) := by rw [blk_cell b4]; rfl
  have s1 : w5.cell? ⟨S, 1, none⟩ = some (.slice none 0 0) := by rw [blk_cell b4]; rfl
  have s2 : w5.cell? ⟨S, 2, none⟩ = some (.int .i64 0) := by rw [blk_cell b4]; rfl
  have lS := blk_lt b4
  clear hC hB5 b4
  have hcl : Calls Tryd.prog 10 #[.agg #[.slice (some ⟨R, 0, none⟩) 2 2, .slice none 0 0, .int .i64 0], .string ⟨#[104, 105, 100, 101, 32, 97, 46, 120, 59]⟩] w5 (PolPost w5 (.slice (some ⟨R, 0, none⟩) 2 2) (.slice none 0 0) (.int .i64 0) (some [[0, 0]])) := by
    have h := polParse_calls l20 [] (some ⟨R, 0, none⟩) none 2 0 0 k20_W k20_B (by decide) tP (by decide) w5 HC.out
    rw [k20_P] at h
    exact h
  have HCL := Lib.hid hcl
  clear hcl
  go_wp2_with fail
  refine HCL.out.mono ?_
  intro e w6 hp
  obtain ⟨v, rfl, ⟨g, b, m, n, N, rfl, hP, hM, hr, hn⟩⟩ := hp.yes _ rfl
  have hB6 := hp.below
  have HP := Lib.hid (And.intro hP (And.intro hM (And.intro hr hn)))
  have HB6 := Lib.hid (HB5.out.trans (hB6.mono HB5.out.size))
  have HC6 := Lib.hid (Kd.C_below HC.out hB6)
  have s0 := cell_kept s0 hB6
  have s1 := cell_kept s1 hB6
  have s2 := cell_kept s2 hB6
  have lS := Nat.lt_of_lt_of_le lS hB6.size
  clear hp hB6 HCL hP hM hr hn
  have hcl : Calls Tryd.prog 14 #[.agg #[.slice (some ⟨R, 0, none⟩) 2 2, .slice none 0 0, .int .i64 0], .string ⟨#[97, 46, 120]⟩] w6 (PthEnd w6 (some (stX, ⟨6, 0, 0⟩))) := by
    have h := pthParse_calls l20 [] (some ⟨R, 0, none⟩) none 2 0 0 k20_W (by decide) tX (by decide) (noBra_of k20_nX) w6 HC6.out
    rw [k20_X] at h
    exact h
  have HCL := Lib.hid hcl
  clear hcl
  go_wp2_with fail
  refine HCL.out.mono ?_
  intro e w7 hp
  obtain ⟨AX, cX, rfl, hcX, hCX⟩ := hp.yes _ _ rfl
  rw [show stX.length = 2 from rfl] at hcX hCX
  rw [show stX.length = 2 from rfl, show (⟨6, 0, 0⟩ : STy).f0 = 6 from rfl, show (⟨6, 0, 0⟩ : STy).f1 = 0 from rfl, show (⟨6, 0, 0⟩ : STy).f2 = 0 from rfl]
  have hB7 := hp.below
  obtain ⟨w8, h8⟩ : ∃ w8, w8 = w7.alloc (Obj.cells #[.slice AX 2 cX, .int .u8 6, .int .i64 0, .int .i64 0] pathT) := ⟨_, rfl⟩
  have hb8 : Below w7.heap.size w7 w8 := by rw [h8]; exact below1 _ _
  have bX : w8.heap[w7.heap.size]? = some (.cells #[.slice AX 2 cX, .int .u8 6, .int .i64 0, .int .i64 0] pathT (0, 0)) := by rw [h8]; exact blk_new _ _
  have hB68 : Below w6.heap.size w6 w8 := hB7.trans (hb8.mono hB7.size)
  have HB8 := Lib.hid (HB6.out.trans (hB68.mono HB6.out.size))
  have HC8 := Lib.hid (Kd.C_below HC6.out hB68)
  have HX := Lib.hid (And.intro hcX (Kd.C_below hCX hb8))
  have HP8 := Lib.hid (And.intro (blk_below HP.out.1 hB68 (blk_lt HP.out.1)) (And.intro (HP.out.2.1.below hB68) HP.out.2.2))
  have s0 := cell_kept s0 hB68
  have s1 := cell_kept s1 hB68
  have s2 := cell_kept s2 hB68
  have lS := Nat.lt_of_lt_of_le lS hB68.size
  clear hp hB7 HCL hcX hCX hb8 hB68
  go_upto_region 5 with (fail)
  rw [← h8]
  obtain ⟨XX, hXX⟩ : ∃ XX, XX = w7.heap.size := ⟨_, rfl⟩
  rw [← hXX] at bX ⊢
  have HBX := Lib.hid bX
  clear h8 hXX bX
  have hcl : Calls Tryd.prog 14 #[.agg #[.slice (some ⟨R, 0, none⟩) 2 2, .slice none 0 0, .int .i64 0], .string ⟨#[97]⟩] w8 (PthEnd w8 (some (stA, ⟨13, 1, 0⟩))) := by
    have h := pthParse_calls l20 [] (some ⟨R, 0, none⟩) none 2 0 0 k20_W (by decide) tA (by decide) (noBra_of k20_nA) w8 HC8.out
    rw [k20_A] at h
    exact h
  have HCL := Lib.hid hcl
  clear hcl
  go_wp2_with fail
  refine HCL.out.mono ?_
  intro e w9 hp
  obtain ⟨AA, cA, rfl, hcA, hCA⟩ := hp.yes _ _ rfl
  rw [show stA.length = 1 from rfl] at hcA hCA
  rw [show stA.length = 1 from rfl, show (⟨13, 1, 0⟩ : STy).f0 = 13 from rfl, show (⟨13, 1, 0⟩ : STy).f1 = 1 from rfl, show (⟨13, 1, 0⟩ : STy).f2 = 0 from rfl]
  have hB9 := hp.below
  obtain ⟨w10, h10⟩ : ∃ w10, w10 = w9.alloc (Obj.cells #[.slice AA 1 cA, .int .u8 13, .int .i64 1, .int .i64 0] pathT) := ⟨_, rfl⟩
  have hb10 : Below w9.heap.size w9 w10 := by rw [h10]; exact below1 _ _
  have bA : w10.heap[w9.heap.size]? = some (.cells #[.slice AA 1 cA, .int .u8 13, .int .i64 1, .int .i64 0] pathT (0, 0)) := by rw [h10]; exact blk_new _ _
  have hB810 : Below w8.heap.size w8 w10 := hB9.trans (hb10.mono hB9.size)
  have HB10 := Lib.hid (HB8.out.trans (hB810.mono HB8.out.size))
  have HC10 := Lib.hid (Kd.C_below HC8.out hB810)
  have HX10 := Lib.hid (And.intro HX.out.1 (Kd.C_below HX.out.2 hB810))
  have HBX10 := Lib.hid (blk_below HBX.out hB810 (blk_lt HBX.out))
  have HA := Lib.hid (And.intro hcA (Kd.C_below hCA hb10))
  have HP10 := Lib.hid (And.intro (blk_below HP8.out.1 hB810 (blk_lt HP8.out.1)) (And.intro (HP8.out.2.1.below hB810) HP8.out.2.2))
  have s0 := cell_kept s0 hB810
  have s1 := cell_kept s1 hB810
  have s2 := cell_kept s2 hB810
  have lS := Nat.lt_of_lt_of_le lS hB810.size
  clear hp hB9 HCL hcA hCA hb10 hB810
  go_upto_region 6 with (fail)
  rw [← h10]
  obtain ⟨XA, hXA⟩ : ∃ XA, XA = w9.heap.size := ⟨_, rfl⟩
  rw [← hXA] at bA ⊢
  have HBA := Lib.hid bA
  clear h10 hXA bA
  have hcl : Calls Tryd.prog 21 #[.agg #[.slice (some ⟨R, 0, none⟩) 2 2, .slice none 0 0, .int .i64 0], .string ⟨#[97, 44, 32, 121]⟩] w10 (MskPost w10 (some [[0], [1]])) := by
    have h := mskParse_calls l20 [] (some ⟨R, 0, none⟩) none 2 0 0 k20_W k20_B (by decide) tM (by decide) w10 HC10.out
    rw [k20_M] at h
    exact h
  have HCL := Lib.hid hcl
  clear hcl
  go_wp2_with fail
  refine HCL.out.mono ?_
  intro e w11 hp
  obtain ⟨b2, m2, n2, N2, rfl, hM2, hr2, hn2⟩ := hp.yes _ rfl
  have hB11 := hp.below
  have HB11 := Lib.hid (HB10.out.trans (hB11.mono HB10.out.size))
  have HX11 := Lib.hid (And.intro HX10.out.1 (Kd.C_below HX10.out.2 hB11))
  have HA11 := Lib.hid (And.intro HA.out.1 (Kd.C_below HA.out.2 hB11))
  have hbX := blk_below HBX10.out hB11 (blk_lt HBX10.out)
  have hbA := blk_below HBA.out hB11 (blk_lt HBA.out)
  have HBA11 := Lib.hid hbA
  have HP11 := Lib.hid (And.intro (blk_below HP10.out.1 hB11 (blk_lt HP10.out.1)) (And.intro (HP10.out.2.1.below hB11) HP10.out.2.2))
  have HM2 := Lib.hid (And.intro hM2 hr2)
  have x0 : w11.cell? ⟨XX, 0, none⟩ = some (.slice AX 2 cX) := by rw [blk_cell hbX]; rfl
  have x1 : w11.cell? ⟨XX, 1, none⟩ = some (.int .u8 6) := by rw [blk_cell hbX]; rfl
  have x2 : w11.cell? ⟨XX, 2, none⟩ = some (.int .i64 0) := by rw [blk_cell hbX]; rfl
  have x3 : w11.cell? ⟨XX, 3, none⟩ = some (.int .i64 0) := by rw [blk_cell hbX]; rfl
  have lX := blk_lt hbX
  clear hp hB11 HCL hM2 hr2 hn2 hbX hbA s0 s1 s2 lS
  have h1 := hides_calls HP11.out.1 HP11.out.2.1 HP11.out.2.2.1 HP11.out.2.2.2 AX cX stX 6 0 0 HX11.out.2 HX11.out.1 (by decide) (by decide)
  rw [show hasA [[0, 0]] (fldsOf stX) = true by decide +kernel] at h1
  have H1 := Lib.hid h1
  clear h1
  go_upto_region 7 with (fail)
  go_wp2_with fail
  refine H1.out.mono ?_
  rintro e w12 ⟨rfl, hB12⟩
  have HB12 := Lib.hid (HB11.out.trans (hB12.mono HB11.out.size))
  have hbA := blk_below HBA11.out hB12 (blk_lt HBA11.out)
  have y0 : w12.cell? ⟨XA, 0, none⟩ = some (.slice AA 1 cA) := by rw [blk_cell hbA]; rfl
  have y1 : w12.cell? ⟨XA, 1, none⟩ = some (.int .u8 13) := by rw [blk_cell hbA]; rfl
  have y2 : w12.cell? ⟨XA, 2, none⟩ = some (.int .i64 1) := by rw [blk_cell hbA]; rfl
  have y3 : w12.cell? ⟨XA, 3, none⟩ = some (.int .i64 0) := by rw [blk_cell hbA]; rfl
  have lA := blk_lt hbA
  have HP12 := Lib.hid (And.intro (blk_below HP11.out.1 hB12 (blk_lt HP11.out.1)) (And.intro (HP11.out.2.1.below hB12) HP11.out.2.2))
  have HM12 := Lib.hid (And.intro (HM2.out.1.below hB12) HM2.out.2)
  have h2 := hides_calls HP12.out.1 HP12.out.2.1 HP12.out.2.2.1 HP12.out.2.2.2 AA cA stA 13 1 0 (Kd.C_below HA11.out.2 hB12) HA11.out.1 (by decide) (by decide)
  rw [show hasA [[0, 0]] (fldsOf stA) = false by decide +kernel] at h2
  have H2 := Lib.hid h2
  clear h2 hbA hB12 x0 x1 x2 x3 lX
  go_wp2_with fail
  refine H2.out.mono ?_
  rintro e w13 ⟨rfl, hB13⟩
  have HB13 := Lib.hid (HB12.out.trans (hB13.mono HB12.out.size))
  have h3 := bars_calls (blk_below HP12.out.1 hB13 (blk_lt HP12.out.1)) (HP12.out.2.1.below hB13) HP12.out.2.2.1 (HM12.out.1.below hB13) HM12.out.2
  rw [show meetN [[0, 0]] [[0], [1]] = false by decide +kernel] at h3
  have H3 := Lib.hid h3
  clear h3 hB13 y0 y1 y2 y3 lA
  go_wp2_with fail
  refine H3.out.mono ?_
  rintro e w14 ⟨rfl, hB14⟩
  have HB14 := Lib.hid (HB13.out.trans (hB14.mono HB13.out.size))
  clear hB14
  go_wp2_with fail
  go_ret
  exact ⟨rfl, HB14.out⟩

end Go.Proofs.YtejpjclbeogajaaDoor
