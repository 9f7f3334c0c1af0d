/-
  Parts: MkR, Awk5P, SchRow, Awake05, LoopP, TextOk, LoopW, RefLoop, MadeAll, PlanLater, PlanOpen, LawLoops, RowSchemaLoops.
-/
import Derived.Test.YtgoaiokpnifhfaaMkM
import Derived.Test.YtgoaiokpnifhfaaMakeP
import Derived.Test.YtgoaiokpnifhfaaMadeT
import Derived.Test.YtgoaiokpnifhfaaIdl1
import Derived.Test.YtgoaiokpnifhfaaBase
import Derived.Deep.OwnRows
import Derived.Laws.EntriesVeiled
import Derived.Test.YtgoaiokpnifhfaaMade
import Derived.Test.YtgoaiokpnifhfaaPlan
import Derived.Lib.SmallJoins
import Derived.Deep.Slices
import Derived.OpenShut
import Derived.Test.YtgoaiokpnifhfaaRows
import Derived.WalkKit
import Derived.ProofKit
import Derived.ShutString
import Derived.ChangeOld
import Derived.Below
import Derived.SizedLaws

/-
  schema.Read: a schema's text.
-/
namespace Go.Proofs.Ytgoaiokpnifhfaa
open Go.RowKit
set_option linter.unusedVariables false
set_option linter.unusedSimpArgs false

theorem toksF_code {s sg : ByteArray} {c : Int} {p : Nat} : ∀ (n i : Nat), toksF s sg n i = .error (c, p) → c ≠ 0 := by
  intro n
  induction n with
  | zero => intro i h; simp only [toksF] at h; cases h; decide
  | succ n ih =>
    intro i h
    simp only [toksF] at h
    cases ho : oneB s sg (behind s i) with
    | none => rw [ho] at h; cases h; decide
    | some x =>
      obtain ⟨k, t, e⟩ := x
      rw [ho] at h
      simp only at h
      split at h
      · cases h
      · cases hr : toksF s sg n e with
        | error x => rw [hr] at h; cases h; exact ih e hr
        | ok l' => rw [hr] at h; cases h
theorem parseI_code {s : ByteArray} {c : Int} {p : Nat} (h : parseI s = .error (c, p)) : c ≠ 0 := by
  unfold parseI at h
  cases ht : toks s sgI with
  | error x =>
    rw [ht] at h
    cases h
    unfold toks at ht
    split at ht
    · cases ht; decide
    · exact toksF_code _ _ ht
  | ok l =>
    rw [ht] at h
    simp only [rawOf] at h
    split at h
    · cases h
    · rename_i hc; cases h; exact hc

set_option maxHeartbeats 4000000 in
set_option maxRecDepth 100000 in
theorem read_calls (s : ByteArray) (w : World) (hs : s.size ≤ 140737488351232) : Calls Try.prog 14 #[.string s] w (MakePost (readI s) w) := by
  have hb1 := blk_alloc (blk_new w (Obj.cells #[.slice none 0 0, .slice none 0 0, .int .i64 0] 52)) (Obj.cells #[.int .i64 0, .int .i64 0] 30)
  have hb2 := blk_new (w.alloc (Obj.cells #[.slice none 0 0, .slice none 0 0, .int .i64 0] 52)) (Obj.cells #[.int .i64 0, .int .i64 0] 30)
  rw [World.size_alloc] at hb2
  have hbb : Below w.heap.size w ((w.alloc (Obj.cells #[.slice none 0 0, .slice none 0 0, .int .i64 0] 52)).alloc (Obj.cells #[.int .i64 0, .int .i64 0] 30)) := (below1 _ _).alloc (by simp) _
  go_enter Try.func14, Try.ntmps14
  go_upto_region 1 with (fail)
  generalize (w.alloc (Obj.cells #[.slice none 0 0, .slice none 0 0, .int .i64 0] 52)).alloc (Obj.cells #[.int .i64 0, .int .i64 0] 30) = W at *
  obtain ⟨S, hS⟩ : ∃ S, S = w.heap.size := ⟨_, rfl⟩
  rw [← hS] at hb1 hb2 ⊢
  have hSL : w.heap.size ≤ S := by omega
  have HS := Lib.hid hSL
  have HBB := Lib.hid hbb
  have H1 := Lib.hid hb1
  have H2 := Lib.hid hb2
  have hrd : readI s = match parseI s with | .error x => .error x | .ok r => makeI r := rfl
  have HRD := Lib.hid hrd
  clear hS hSL hbb hb1 hb2 hrd
  go_wp2_with fail
  refine (parse_calls s W hs).mono ?_
  intro e w1 hp
  cases hpi : parseI s with
  | error x =>
    obtain ⟨c, p⟩ := x
    rw [hpi] at hp
    obtain ⟨hB1, rfl⟩ := hp
    have hc := parseI_code hpi
    have hc0 : (c != 0) = true := by rw [bne_iff_ne]; exact hc
    have hmk : readI s = .error (c, p) := by rw [HRD.out, hpi]
    have HMK := Lib.hid hmk
    have hb1 := blk_below H1.out hB1 (blk_lt H1.out)
    have hb2 := blk_below H2.out hB1 (blk_lt H2.out)
    have HB1 := Lib.hid (HBB.out.trans (hB1.mono HBB.out.size))
    have p0 : w1.cell? ⟨S, 0, none⟩ = some (.slice none 0 0) := by rw [blk_cell hb1]; rfl
    have p1 : w1.cell? ⟨S, 1, none⟩ = some (.slice none 0 0) := by rw [blk_cell hb1]; rfl
    have p2 : w1.cell? ⟨S, 2, none⟩ = some (.int .i64 0) := by rw [blk_cell hb1]; rfl
    have pf := fun j => blk_frozen hb1 j
    have q0 : w1.cell? ⟨S + 1, 0, none⟩ = some (.int .i64 0) := by rw [blk_cell hb2]; rfl
    have q1 : w1.cell? ⟨S + 1, 1, none⟩ = some (.int .i64 0) := by rw [blk_cell hb2]; rfl
    have qf := fun j => blk_frozen hb2 j
    have l1 := blk_lt hb1
    have l2 := blk_lt hb2
    clear hmk hB1 hb1 hb2 hpi hc HRD
    go_wp2_with fail
    go_region
    all_goals (try go_wp2_with fail)
    all_goals refine bodyPost_ret (v := .tuple #[.agg #[.slice none 0 0, .slice none 0 0, .int .i64 0], .agg #[.int .i64 c, .int .i64 (p : Int)]]) (by simp [results, Try.results14, go_sem, *]) rfl ?_
    all_goals rw [HMK.out]
    all_goals refine MakePost.mk_err rfl ?_
    all_goals have hB := HB1.out
    all_goals have hS := HS.out
    all_goals (repeat' (first | (with_reducible exact Below.refl _ _) | (with_reducible assumption) | (with_reducible refine below_drewN ?_ _) | (with_reducible refine Below.alloc ?_ ?_ _) | (with_reducible refine Below.drew ?_) | (with_reducible refine Below.setCell ?_ ?_ _) | (with_reducible refine Below.trans ?_ (Below.mono (by assumption) ?_)) | go_size))
  | ok r =>
    rw [hpi] at hp
    obtain ⟨hB1, vs, ve, vr, rfl, hraw⟩ := hp
    obtain ⟨a1, c1, a2, c2, a3, c3, rfl, rfl, rfl, hrows⟩ := rawRows_of hraw
    have hcap := rawCap_of hraw
    have hmk : readI s = makeI r := by rw [HRD.out, hpi]
    have HMK := Lib.hid hmk
    have hb1 := blk_below H1.out hB1 (blk_lt H1.out)
    have hb2 := blk_below H2.out hB1 (blk_lt H2.out)
    have HB1 := Lib.hid (HBB.out.trans (hB1.mono HBB.out.size))
    have hbd := parse_bd hpi
    have hsz := parse_sz hpi
    have hbA : Below w1.heap.size w1 ((w1.alloc (Obj.cells #[.slice a1 r.structs.length c1, .slice a2 r.enums.length c2, .slice a3 r.roots.length c3] 27)).alloc (Obj.cells #[.int .i64 0, .int .i64 0] 30)) := (below1 _ _).alloc (by simp) _
    have hrA : ((w1.alloc (Obj.cells #[.slice a1 r.structs.length c1, .slice a2 r.enums.length c2, .slice a3 r.roots.length c3] 27)).alloc (Obj.cells #[.int .i64 0, .int .i64 0] 30)).heap[w1.heap.size]? = some (.cells #[.slice a1 r.structs.length c1, .slice a2 r.enums.length c2, .slice a3 r.roots.length c3] 27 (0, 0)) := blk_alloc (blk_new _ _) _
    have hr2 := hrows.below hbA
    have hc2 := hcap.below hrows hbA
    have hb1 := blk_below hb1 hbA (blk_lt hb1)
    have hb2 := blk_below hb2 hbA (blk_lt hb2)
    go_upto_region 4 with (fail)
    obtain ⟨w2, hw2⟩ : ∃ w2, w2 = (w1.alloc (Obj.cells #[.slice a1 r.structs.length c1, .slice a2 r.enums.length c2, .slice a3 r.roots.length c3] 27)).alloc (Obj.cells #[.int .i64 0, .int .i64 0] 30) := ⟨_, rfl⟩
    rw [← hw2] at hbA hrA hr2 hc2 hb1 hb2 ⊢
    obtain ⟨R, hR⟩ : ∃ R, R = w1.heap.size := ⟨_, rfl⟩
    rw [← hR] at hrA ⊢
    have HB2 := Lib.hid (HB1.out.trans (hbA.mono HB1.out.size))
    have HM := Lib.hid (make_calls r hbd hsz a1 a2 a3 c1 c2 c3 w2 hr2 hc2)
    have H12 := Lib.hid hb1
    have H22 := Lib.hid hb2
    have r0 : w2.cell? ⟨R, 0, none⟩ = some (.slice a1 r.structs.length c1) := by rw [blk_cell hrA]; rfl
    have r1 : w2.cell? ⟨R, 1, none⟩ = some (.slice a2 r.enums.length c2) := by rw [blk_cell hrA]; rfl
    have r2 : w2.cell? ⟨R, 2, none⟩ = some (.slice a3 r.roots.length c3) := by rw [blk_cell hrA]; rfl
    have lR := blk_lt hrA
    clear hmk hB1 hb1 hb2 hpi HRD hraw hrows hcap hbd hsz hbA hrA hr2 hc2 hw2 hR
    go_wp2_with fail
    refine HM.out.mono ?_
    intro e w3 hmp
    have hB3 := hmp.below
    have hb1 := blk_below H12.out hB3 (blk_lt H12.out)
    have hb2 := blk_below H22.out hB3 (blk_lt H22.out)
    have HB3 := Lib.hid (HB2.out.trans (hB3.mono HB2.out.size))
    have hw2z := blk_lt H22.out
    have p0 : w3.cell? ⟨S, 0, none⟩ = some (.slice none 0 0) := by rw [blk_cell hb1]; rfl
    have p1 : w3.cell? ⟨S, 1, none⟩ = some (.slice none 0 0) := by rw [blk_cell hb1]; rfl
    have p2 : w3.cell? ⟨S, 2, none⟩ = some (.int .i64 0) := by rw [blk_cell hb1]; rfl
    have pf := fun j => blk_frozen hb1 j
    have q0 : w3.cell? ⟨S + 1, 0, none⟩ = some (.int .i64 0) := by rw [blk_cell hb2]; rfl
    have q1 : w3.cell? ⟨S + 1, 1, none⟩ = some (.int .i64 0) := by rw [blk_cell hb2]; rfl
    have qf := fun j => blk_frozen hb2 j
    have l1 := blk_lt hb1
    have l2 := blk_lt hb2
    clear r0 r1 r2 lR
    cases hmi : makeI r with
    | error x =>
      obtain ⟨c, p⟩ := x
      have he := hmp.err c p hmi
      subst he
      have hmk : readI s = .error (c, p) := by rw [HMK.out, hmi]
      have HMK2 := Lib.hid hmk
      clear hmp hmk hmi hB3 hb1 hb2
      go_wp2_with fail
      refine bodyPost_ret (v := .tuple #[.agg #[.slice none 0 0, .slice none 0 0, .int .i64 0], .agg #[.int .i64 c, .int .i64 (p : Int)]]) (by simp [results, Try.results14, go_sem, *]) rfl ?_
      rw [HMK2.out]
      refine MakePost.mk_err rfl ?_
      have hB := HB3.out
      have hS := HS.out
      (repeat' (first | (with_reducible exact Below.refl _ _) | (with_reducible assumption) | (with_reducible refine Below.alloc ?_ ?_ _) | (with_reducible refine Below.drew ?_) | (with_reducible refine Below.setCell ?_ ?_ _) | (with_reducible refine Below.trans ?_ (Below.mono (by assumption) ?_)) | go_size))
    | ok sch =>
      obtain ⟨v, he, hsch⟩ := hmp.ok sch hmi
      subst he
      have hmk : readI s = .ok sch := by rw [HMK.out, hmi]
      have HMK2 := Lib.hid hmk
      have HSC := Lib.hid hsch
      obtain ⟨vS, vE, rfl, ⟨A1, k1, rfl, _⟩, ⟨A2, k2, rfl, _⟩⟩ := hsch w3 (Nat.le_refl _) (fun b _ _ => rfl)
      clear hmp hmk hmi hB3 hb1 hb2 hsch
      go_wp2_with fail
      refine bodyPost_ret (v := .tuple #[.agg #[.slice A1 sch.structs.length k1, .slice A2 sch.enums.length k2, .int .i64 sch.root], .agg #[.int .i64 0, .int .i64 0]]) (by simp [results, Try.results14, go_sem, *]) rfl ?_
      rw [HMK2.out]
      refine MakePost.mk_ok rfl (fun W'' hz hw => ?_) ?_
      · have hSS := HS.out
        have h2 := HB2.out.size
        simp only [World.size_setCell] at hz hw
        refine HSC.out W'' hz (fun b h1 h3 => (hw b (by omega) h3).trans ?_)
        (repeat rw [Below.heap_setCell _ _ _ _ (by dsimp only; omega)])
      · have hB := HB3.out
        have hS := HS.out
        (repeat' (first | (with_reducible exact Below.refl _ _) | (with_reducible assumption) | (with_reducible refine Below.alloc ?_ ?_ _) | (with_reducible refine Below.drew ?_) | (with_reducible refine Below.setCell ?_ ?_ _) | (with_reducible refine Below.trans ?_ (Below.mono (by assumption) ?_)) | go_size))

end Go.Proofs.Ytgoaiokpnifhfaa

/-
  Layer 5: the fixed facts, by the kernel.
-/
namespace Go.Proofs.Ytgoaiokpnifhfaa
open Go.RowKit
set_option linter.unusedVariables false
set_option linter.unusedSimpArgs false

def aw5a : ByteArray := ⟨#[101, 110, 117, 109, 32, 69, 32, 123, 32, 97, 44, 32, 98, 32, 125, 32, 115, 116, 114, 117, 99, 116, 32, 83, 32, 123, 32, 120, 58, 32, 69, 32, 61, 32, 98, 59, 32, 125, 32, 114, 111, 111, 116, 32, 83, 59]⟩
def aw5b : ByteArray := ⟨#[115, 116, 114, 117, 99, 116, 32, 83, 32, 123, 32, 120, 58, 32, 117, 56, 32, 61, 32, 50, 53, 54, 59, 32, 125, 32, 114, 111, 111, 116, 32, 83, 59]⟩
def aw5c : ByteArray := ⟨#[115, 116, 114, 117, 99, 116, 32, 83, 32, 123, 32, 120, 58, 32, 84, 59, 32, 125, 32, 114, 111, 111, 116, 32, 83, 59]⟩
def fact5 : Except (Int × Nat) FSchema → Option (Nat × Nat × Int)
  | .ok s => match s.structs with
    | x :: _ => match x.fields with
      | f :: _ => some (s.structs.length, x.fields.length, f.df)
      | [] => none
    | [] => none
  | .error _ => none
def fault5 : Except (Int × Nat) FSchema → Option (Int × Nat)
  | .ok _ => none
  | .error x => some x
set_option maxRecDepth 1000000 in
theorem aw5a_is : (fact5 (readI aw5a) == some (1, 1, 1)) = true := by decide +kernel
set_option maxRecDepth 1000000 in
theorem aw5b_is : (fault5 (readI aw5b) == some (15, 19)) = true := by decide +kernel
set_option maxRecDepth 1000000 in
theorem aw5c_is : (fault5 (readI aw5c) == some (14, 14)) = true := by decide +kernel
theorem fault5_some {o : Except (Int × Nat) FSchema} {x : Int × Nat} (h : fault5 o = some x) : o = .error x := by
  cases o with
  | error y => cases h; rfl
  | ok r => cases h
theorem fact5_some {o : Except (Int × Nat) FSchema} {a b : Nat} {d : Int} (h : fact5 o = some (a, b, d)) : ∃ s, o = .ok s ∧ s.structs.length = a ∧ 0 < a ∧ (rget s.structs 0).fields.length = b ∧ 0 < b ∧ (fget (rget s.structs 0).fields 0).df = d := by
  cases o with
  | error y => cases h
  | ok s =>
    refine ⟨s, rfl, ?_⟩
    unfold fact5 at h
    simp only at h
    cases hs : s.structs with
    | nil => rw [hs] at h; cases h
    | cons x xs =>
      rw [hs] at h
      simp only at h
      cases hf : x.fields with
      | nil => rw [hf] at h; cases h
      | cons f fs =>
        rw [hf] at h
        cases h
        have e : rget (x :: xs) 0 = x := rfl
        rw [e, hf]
        exact ⟨rfl, by simp, rfl, by simp, rfl⟩

end Go.Proofs.Ytgoaiokpnifhfaa

/-
  A schema in memory: its rows.
-/
namespace Go.Proofs.Ytgoaiokpnifhfaa
open Go.RowKit
set_option linter.unusedVariables false
set_option linter.unusedSimpArgs false

/-- a schema's rows in memory -/
structure SchRows (w : World) (aS aE : Option Addr) (s : FSchema) : Prop where
  st : ∀ i, i < s.structs.length → ∃ b o b' c', aS = some ⟨b, o, none⟩ ∧ b < w.heap.size ∧ w.cell? ⟨b, o + i * 2, none⟩ = some (.string (rget s.structs i).name) ∧ w.cell? ⟨b, o + i * 2 + 1, none⟩ = some (.slice (some ⟨b', 0, none⟩) (rget s.structs i).fields.length c') ∧ b' < w.heap.size ∧ FieldsRow w b' (rget s.structs i).fields
  en : ∀ i, i < s.enums.length → ∃ b o b' c', aE = some ⟨b, o, none⟩ ∧ b < w.heap.size ∧ w.cell? ⟨b, o + i * 2, none⟩ = some (.string (cget s.enums i).name) ∧ w.cell? ⟨b, o + i * 2 + 1, none⟩ = some (.slice (some ⟨b', 0, none⟩) (cget s.enums i).names.length c') ∧ b' < w.heap.size ∧ StrsRow w b' (cget s.enums i).names
theorem SchRows.below {w w' : World} {aS aE : Option Addr} {s : FSchema} (h : SchRows w aS aE s) (hb : Below w.heap.size w w') : SchRows w' aS aE s := by
  refine ⟨fun i hi => ?_, fun i hi => ?_⟩
  · obtain ⟨b, o, b', c', e, h1, h2, h3, h4, h5⟩ := h.st i hi
    exact ⟨b, o, b', c', e, Nat.lt_of_lt_of_le h1 hb.size, cell_kept h2 hb, cell_kept h3 hb, Nat.lt_of_lt_of_le h4 hb.size, FieldsAt.below h5 hb h4⟩
  · obtain ⟨b, o, b', c', e, h1, h2, h3, h4, h5⟩ := h.en i hi
    exact ⟨b, o, b', c', e, Nat.lt_of_lt_of_le h1 hb.size, cell_kept h2 hb, cell_kept h3 hb, Nat.lt_of_lt_of_le h4 hb.size, strs_local _ w w' b' (hb.block b' h4) h5⟩
theorem schRows_of {w : World} {v : Value} {s : FSchema} (h : SchemaAt w v s) : ∃ aS cS aE cE, v = .agg #[.slice aS s.structs.length cS, .slice aE s.enums.length cE, .int .i64 s.root] ∧ SchRows w aS aE s := by
  obtain ⟨vS, vE, rfl, ⟨aS, cS, rfl, h1⟩, ⟨aE, cE, rfl, h2⟩⟩ := h
  refine ⟨aS, cS, aE, cE, rfl, ⟨fun i hi => ?_, fun i hi => ?_⟩⟩
  · obtain ⟨b, o, rfl, hb, hc⟩ := h1 (by omega)
    obtain ⟨b', c', g0, g1, g2, g3⟩ := hc i hi
    exact ⟨b, o, b', c', rfl, hb, g0, g1, g2, g3⟩
  · obtain ⟨b, o, rfl, hb, hc⟩ := h2 (by omega)
    obtain ⟨b', c', g0, g1, g2, g3⟩ := hc i hi
    exact ⟨b, o, b', c', rfl, hb, g0, g1, g2, g3⟩

end Go.Proofs.Ytgoaiokpnifhfaa

/-
  Layer 5: Awake.
-/
namespace Go.Proofs.Ytgoaiokpnifhfaa
open Go.RowKit
set_option linter.unusedVariables false
set_option linter.unusedSimpArgs false

set_option maxHeartbeats 4000000 in
set_option maxRecDepth 100000 in
theorem awake05_calls (w : World) : Calls Try.prog 8 #[] w fun e w' => e = .returned (.bool true) ∧ Below w.heap.size w w' := by
  obtain ⟨sch, hA, hs1, _, hf1, _, hdf⟩ := fact5_some (eq_of_beq aw5a_is)
  have h1 := fun (W : World) => read_calls aw5a W (by decide)
  have h2 := fun (W : World) => read_calls aw5b W (by decide)
  have h3 := fun (W : World) => read_calls aw5c W (by decide)
  rw [hA] at h1
  rw [fault5_some (eq_of_beq aw5b_is)] at h2
  rw [fault5_some (eq_of_beq aw5c_is)] at h3
  have H1 := Lib.hid h1
  have H2 := Lib.hid h2
  have H3 := Lib.hid h3
  have HS1 := Lib.hid hs1
  have HF1 := Lib.hid hf1
  have HDF := Lib.hid hdf
  clear h1 h2 h3 hA hs1 hf1 hdf
  go_enter Try.func8, Try.ntmps8
  go_wp2_with fail
  refine (H1.out w).mono ?_
  intro e w1 hp1
  obtain ⟨v, he, hsc⟩ := hp1.ok sch rfl
  subst he
  obtain ⟨aS, cS, aE, cE, rfl, hrows⟩ := schRows_of (hsc w1 (Nat.le_refl _) (fun _ _ _ => rfl))
  rw [HS1.out]
  have hB1 := hp1.below
  obtain ⟨b, o, b', c', rfl, hb, _, k1, hb', hfs⟩ := hrows.st 0 (by rw [HS1.out]; decide)
  rw [HF1.out] at k1
  have k2 := (hfs 0 (by rw [HF1.out]; decide)).2.2.2.2
  rw [HDF.out] at k2
  have hx1 := (below1 w1 (Obj.cells #[.slice (some ⟨b, o, none⟩) 1 cS, .slice aE sch.enums.length cE, .int .i64 sch.root] 52)).alloc (by simp) (Obj.cells #[.int .i64 0, .int .i64 0] 30)
  have hS1 := blk_alloc (blk_new w1 (Obj.cells #[.slice (some ⟨b, o, none⟩) 1 cS, .slice aE sch.enums.length cE, .int .i64 sch.root] 52)) (Obj.cells #[.int .i64 0, .int .i64 0] 30)
  have hF1 := blk_new (w1.alloc (Obj.cells #[.slice (some ⟨b, o, none⟩) 1 cS, .slice aE sch.enums.length cE, .int .i64 sch.root] 52)) (Obj.cells #[.int .i64 0, .int .i64 0] 30)
  rw [World.size_alloc] at hF1
  have HB1 := Lib.hid hB1
  clear hp1 hsc hrows hB1 hfs
  go_upto_region 2 with (fail)
  obtain ⟨w2, hw2⟩ : ∃ w2, w2 = (w1.alloc (Obj.cells #[.slice (some ⟨b, o, none⟩) 1 cS, .slice aE sch.enums.length cE, .int .i64 sch.root] 52)).alloc (Obj.cells #[.int .i64 0, .int .i64 0] 30) := ⟨_, rfl⟩
  rw [← hw2] at hx1 hS1 hF1 ⊢
  obtain ⟨Q, hQ⟩ : ∃ Q, Q = w1.heap.size := ⟨_, rfl⟩
  have k1 := cell_kept k1 hx1
  have k2 := cell_kept k2 hx1
  have hb2 : b < w2.heap.size := Nat.lt_of_lt_of_le hb hx1.size
  have hb'2 : b' < w2.heap.size := Nat.lt_of_lt_of_le hb' hx1.size
  have HB2 := Lib.hid (HB1.out.trans (hx1.mono HB1.out.size))
  rw [← hQ] at hS1 hF1 ⊢
  have HK1 := Lib.hid k1
  have HK2 := Lib.hid k2
  have HS2 := Lib.hid hS1
  have HF2 := Lib.hid hF1
  have HBL := Lib.hid (And.intro hb2 hb'2)
  clear hw2 hQ hx1 hS1 hF1 k1 k2 hb hb' hb2 hb'2
  go_wp2_with fail
  refine (H2.out w2).mono ?_
  intro e w3 hp2
  have he := hp2.err 15 19 rfl
  subst he
  have hB3 := hp2.below
  have hx3 := (below1 w3 (Obj.cells #[.slice none 0 0, .slice none 0 0, .int .i64 0] 52)).alloc (by simp) (Obj.cells #[.int .i64 15, .int .i64 19] 30)
  have hF3 := blk_new (w3.alloc (Obj.cells #[.slice none 0 0, .slice none 0 0, .int .i64 0] 52)) (Obj.cells #[.int .i64 15, .int .i64 19] 30)
  rw [World.size_alloc] at hF3
  have hBC := hB3.trans (hx3.mono hB3.size)
  have HBC := Lib.hid hBC
  have HF3 := Lib.hid hF3
  clear hp2 hB3 hx3 hBC hF3
  rw [show ((19 : Nat) : Int) = 19 from rfl]
  go_upto_region 3 with (fail)
  obtain ⟨w4, hw4⟩ : ∃ w4, w4 = (w3.alloc (Obj.cells #[.slice none 0 0, .slice none 0 0, .int .i64 0] 52)).alloc (Obj.cells #[.int .i64 15, .int .i64 19] 30) := ⟨_, rfl⟩
  rw [← hw4] at HBC HF3 ⊢
  obtain ⟨Q3, hQ3⟩ : ∃ Q3, Q3 = w3.heap.size := ⟨_, rfl⟩
  rw [← hQ3] at HF3 ⊢
  clear hw4 hQ3
  go_wp2_with fail
  refine (H3.out w4).mono ?_
  intro e w5 hp3
  have he := hp3.err 14 14 rfl
  subst he
  have hB5 := hp3.below
  have hx5 := (below1 w5 (Obj.cells #[.slice none 0 0, .slice none 0 0, .int .i64 0] 52)).alloc (by simp) (Obj.cells #[.int .i64 14, .int .i64 14] 30)
  have hF5 := blk_new (w5.alloc (Obj.cells #[.slice none 0 0, .slice none 0 0, .int .i64 0] 52)) (Obj.cells #[.int .i64 14, .int .i64 14] 30)
  rw [World.size_alloc] at hF5
  have HBD := Lib.hid (hB5.trans (hx5.mono hB5.size))
  have HF5 := Lib.hid hF5
  clear hp3 hB5 hx5 hF5
  rw [show ((14 : Nat) : Int) = 14 from rfl]
  go_upto_region 4 with (fail)
  obtain ⟨w6, hw6⟩ : ∃ w6, w6 = (w5.alloc (Obj.cells #[.slice none 0 0, .slice none 0 0, .int .i64 0] 52)).alloc (Obj.cells #[.int .i64 14, .int .i64 14] 30) := ⟨_, rfl⟩
  rw [← hw6] at HBD HF5 ⊢
  obtain ⟨Q5, hQ5⟩ : ∃ Q5, Q5 = w5.heap.size := ⟨_, rfl⟩
  rw [← hQ5] at HF5 ⊢
  clear hw6 hQ5
  have hBE := HBC.out.trans (HBD.out.mono HBC.out.size)
  have hS6 := blk_below HS2.out hBE (blk_lt HS2.out)
  have hF6 := blk_below HF2.out hBE (blk_lt HF2.out)
  have hG6 := blk_below HF3.out HBD.out (blk_lt HF3.out)
  have m1 := cell_kept HK1.out hBE
  have m2 := cell_kept HK2.out hBE
  rw [Nat.zero_mul, Nat.add_zero] at m1
  rw [Nat.zero_mul, Nat.zero_add] at m2
  have n1 : b < w6.heap.size := Nat.lt_of_lt_of_le HBL.out.1 hBE.size
  have n2 : b' < w6.heap.size := Nat.lt_of_lt_of_le HBL.out.2 hBE.size
  have s0 : w6.cell? ⟨Q, 0, none⟩ = some (.slice (some ⟨b, o, none⟩) 1 cS) := by rw [blk_cell hS6]; rfl
  have f0 : w6.cell? ⟨Q + 1, 0, none⟩ = some (.int .i64 0) := by rw [blk_cell hF6]; rfl
  have g0 : w6.cell? ⟨Q3 + 1, 0, none⟩ = some (.int .i64 15) := by rw [blk_cell hG6]; rfl
  have g1 : w6.cell? ⟨Q3 + 1, 1, none⟩ = some (.int .i64 19) := by rw [blk_cell hG6]; rfl
  have i0 : w6.cell? ⟨Q5 + 1, 0, none⟩ = some (.int .i64 14) := by rw [blk_cell HF5.out]; rfl
  have i1 : w6.cell? ⟨Q5 + 1, 1, none⟩ = some (.int .i64 14) := by rw [blk_cell HF5.out]; rfl
  have lS := blk_lt hS6
  have lF := blk_lt hF6
  have lG := blk_lt hG6
  have lI := blk_lt HF5.out
  have HBF := Lib.hid (HB2.out.trans (hBE.mono HB2.out.size))
  clear hBE hS6 hF6 hG6
  go_wp2_with fail
  go_ret
  exact ⟨rfl, HBF.out⟩

end Go.Proofs.Ytgoaiokpnifhfaa

/-
  Structs that lead back to themselves: found by marks (the program), and by rounds (the document): one answer.
-/
namespace Go.Proofs.Ytgoaiokpnifhfaa
set_option linter.unusedVariables false
set_option linter.unusedSimpArgs false

/-! ### ways -/
def Walks (g : Nat → List Nat) : Nat → Nat → Nat → Prop
  | 0, i, k => i = k
  | n + 1, i, k => ∃ j, j ∈ g i ∧ Walks g n j k
def Rch (g : Nat → List Nat) (i k : Nat) : Prop := ∃ n, Walks g n i k
def Plus (g : Nat → List Nat) (i k : Nat) : Prop := ∃ j, j ∈ g i ∧ Rch g j k
/-- does it lead to something that leads back to itself? -/
def Cyc (g : Nat → List Nat) (i : Nat) : Prop := ∃ x, Rch g i x ∧ Plus g x x

theorem rch_refl (g : Nat → List Nat) (i : Nat) : Rch g i i := ⟨0, rfl⟩
theorem rch_step {g : Nat → List Nat} {i j k : Nat} (h : j ∈ g i) (h2 : Rch g j k) : Rch g i k := by
  obtain ⟨n, h2⟩ := h2
  exact ⟨n + 1, j, h, h2⟩
theorem walks_snoc {g : Nat → List Nat} {k : Nat} : ∀ (n i j : Nat), Walks g n i j → k ∈ g j → Walks g (n + 1) i k := by
  intro n
  induction n with
  | zero => intro i j h hk; cases h; exact ⟨k, hk, rfl⟩
  | succ n ih =>
    intro i j h hk
    obtain ⟨m, hm, h⟩ := h
    exact ⟨m, hm, ih m j h hk⟩
theorem rch_snoc {g : Nat → List Nat} {i j k : Nat} (h : Rch g i j) (h2 : k ∈ g j) : Rch g i k := by
  obtain ⟨n, h⟩ := h
  exact ⟨n + 1, walks_snoc n i j h h2⟩
theorem plus_snoc {g : Nat → List Nat} {i j k : Nat} (h : Plus g i j) (h2 : k ∈ g j) : Plus g i k := by
  obtain ⟨m, hm, h⟩ := h
  exact ⟨m, hm, rch_snoc h h2⟩
theorem plus_edge {g : Nat → List Nat} {i k : Nat} (h : k ∈ g i) : Plus g i k := ⟨k, h, rch_refl g k⟩
theorem rch_cases {g : Nat → List Nat} {i k : Nat} (h : Rch g i k) : i = k ∨ Plus g i k := by
  obtain ⟨n, h⟩ := h
  cases n with
  | zero => exact .inl h
  | succ n =>
    obtain ⟨j, hj, h⟩ := h
    exact .inr ⟨j, hj, n, h⟩
theorem cyc_step {g : Nat → List Nat} {i j : Nat} (h : j ∈ g i) (hc : Cyc g j) : Cyc g i := by
  obtain ⟨x, h1, h2⟩ := hc
  exact ⟨x, rch_step h h1, h2⟩

/-! ### by marks: 0: not yet met; 1: met, not yet left; 2: left -/
def upd (st : Nat → Nat) (i v : Nat) : Nat → Nat := fun x => if x = i then v else st x
def dfsL (v : Nat → (Nat → Nat) → Bool × (Nat → Nat)) : List Nat → (Nat → Nat) → Bool × (Nat → Nat)
  | [], st => (false, st)
  | j :: l, st => if (v j st).1 = true then (true, (v j st).2) else dfsL v l (v j st).2
def dfs (g : Nat → List Nat) : Nat → Nat → (Nat → Nat) → Bool × (Nat → Nat)
  | 0, _, st => (false, st)
  | n + 1, i, st => if 0 < st i then (decide (st i = 1), st) else
      if (dfsL (dfs g n) (g i) (upd st i 1)).1 = true then (true, (dfsL (dfs g n) (g i) (upd st i 1)).2) else (false, upd (dfsL (dfs g n) (g i) (upd st i 1)).2 i 2)

theorem dfsL_cons {v : Nat → (Nat → Nat) → Bool × (Nat → Nat)} {j : Nat} {l : List Nat} {st : Nat → Nat} (h : (dfsL v (j :: l) st).1 = false) : (v j st).1 = false ∧ dfsL v (j :: l) st = dfsL v l (v j st).2 := by
  by_cases hv : (v j st).1 = true
  · simp only [dfsL, if_pos hv] at h; cases h
  · exact ⟨by simpa using hv, by simp only [dfsL, if_neg hv]⟩
theorem dfs_white {g : Nat → List Nat} {n i : Nat} {st : Nat → Nat} (h : (dfs g (n + 1) i st).1 = false) (hi : ¬ 0 < st i) : (dfsL (dfs g n) (g i) (upd st i 1)).1 = false ∧ dfs g (n + 1) i st = (false, upd (dfsL (dfs g n) (g i) (upd st i 1)).2 i 2) := by
  by_cases hv : (dfsL (dfs g n) (g i) (upd st i 1)).1 = true
  · simp only [dfs, if_neg hi, if_pos hv] at h; cases h
  · exact ⟨by simpa using hv, by simp only [dfs, if_neg hi, if_neg hv]⟩

theorem dfsL_grey {v : Nat → (Nat → Nat) → Bool × (Nat → Nat)} (hv : ∀ j st, (v j st).1 = false → ∀ x, (v j st).2 x = 1 ↔ st x = 1) : ∀ (l : List Nat) (st : Nat → Nat), (dfsL v l st).1 = false → ∀ x, (dfsL v l st).2 x = 1 ↔ st x = 1 := by
  intro l
  induction l with
  | nil => intro st _ x; exact Iff.rfl
  | cons j l ih =>
    intro st h x
    obtain ⟨h1, h2⟩ := dfsL_cons h
    rw [h2] at h ⊢
    exact (ih _ h x).trans (hv j st h1 x)
theorem dfs_grey {g : Nat → List Nat} : ∀ (n i : Nat) (st : Nat → Nat), (dfs g n i st).1 = false → ∀ x, (dfs g n i st).2 x = 1 ↔ st x = 1 := by
  intro n
  induction n with
  | zero => intro i st _ x; exact Iff.rfl
  | succ n ih =>
    intro i st h x
    by_cases hi : 0 < st i
    · simp only [dfs, if_pos hi]
    · obtain ⟨h1, h2⟩ := dfs_white h hi
      rw [h2]
      have := dfsL_grey ih (g i) (upd st i 1) h1 x
      by_cases hx : x = i
      · subst hx; simp [upd]; omega
      · simp only [upd, if_neg hx] at this ⊢; exact this

theorem dfsL_sound {g : Nat → List Nat} {n : Nat} (ih : ∀ (i : Nat) (st : Nat → Nat), (∀ x, st x = 1 → Plus g x i) → (dfs g n i st).1 = true → Cyc g i) (i : Nat) : ∀ (l : List Nat) (st : Nat → Nat), (∀ j ∈ l, j ∈ g i) → (∀ x, st x = 1 → x = i ∨ Plus g x i) → (dfsL (dfs g n) l st).1 = true → Cyc g i := by
  intro l
  induction l with
  | nil => intro st _ _ h; cases h
  | cons j l ihl =>
    intro st hl hs h
    have hj : j ∈ g i := hl j (by simp)
    have hs2 : ∀ x, st x = 1 → Plus g x j := fun x hx => by
      rcases hs x hx with rfl | hp
      · exact plus_edge hj
      · exact plus_snoc hp hj
    by_cases hv : (dfs g n j st).1 = true
    · exact cyc_step hj (ih j st hs2 hv)
    · simp only [dfsL, if_neg hv] at h
      exact ihl _ (fun k hk => hl k (List.mem_cons_of_mem _ hk)) (fun x hx => hs x ((dfs_grey n j st (by simpa using hv) x).1 hx)) h
theorem dfs_sound {g : Nat → List Nat} : ∀ (n i : Nat) (st : Nat → Nat), (∀ x, st x = 1 → Plus g x i) → (dfs g n i st).1 = true → Cyc g i := by
  intro n
  induction n with
  | zero => intro i st _ h; cases h
  | succ n ih =>
    intro i st hs h
    by_cases hi : 0 < st i
    · simp only [dfs, if_pos hi, decide_eq_true_eq] at h
      exact ⟨i, rch_refl g i, hs i h⟩
    · by_cases hv : (dfsL (dfs g n) (g i) (upd st i 1)).1 = true
      · refine dfsL_sound ih i (g i) (upd st i 1) (fun j hj => hj) (fun x hx => ?_) hv
        by_cases e : x = i
        · exact .inl e
        · simp only [upd, if_neg e] at hx
          exact .inr (hs x hx)
      · simp only [dfs, if_neg hi, if_neg hv] at h; cases h

theorem dfsL_mono {R : Nat → Nat → Prop} (hR0 : ∀ x, R x x) (hRt : ∀ a b c, R a b → R b c → R a c) {v : Nat → (Nat → Nat) → Bool × (Nat → Nat)} (hv : ∀ j st x, R (st x) ((v j st).2 x)) : ∀ (l : List Nat) (st : Nat → Nat) (x : Nat), R (st x) ((dfsL v l st).2 x) := by
  intro l
  induction l with
  | nil => intro st x; exact hR0 _
  | cons j l ih =>
    intro st x
    simp only [dfsL]
    split
    · exact hv j st x
    · exact hRt _ _ _ (hv j st x) (ih _ x)
/-- nothing that was met is forgotten -/
theorem dfs_grow {g : Nat → List Nat} : ∀ (n i : Nat) (st : Nat → Nat) (x : Nat), (dfs g n i st).2 x = 0 → st x = 0 := by
  intro n
  induction n with
  | zero => intro i st x h; exact h
  | succ n ih =>
    intro i st x h
    by_cases hi : 0 < st i
    · simpa only [dfs, if_pos hi] using h
    · have hl := dfsL_mono (R := fun a b => b = 0 → a = 0) (fun _ h => h) (fun a b c h1 h2 h3 => h1 (h2 h3)) ih (g i) (upd st i 1) x
      have hx : x ≠ i ∧ (dfsL (dfs g n) (g i) (upd st i 1)).2 x = 0 := by
        by_cases e : x = i
        · subst e
          exfalso
          have h0 : (dfsL (dfs g n) (g x) (upd st x 1)).2 x = 0 ∨ (2 : Nat) = 0 := by
            simp only [dfs, if_neg hi] at h
            split at h
            · exact .inl h
            · simp [upd] at h
          rcases h0 with h0 | h0
          · have := hl h0; simp [upd] at this
          · cases h0
        · refine ⟨e, ?_⟩
          simp only [dfs, if_neg hi] at h
          split at h
          · exact h
          · simpa [upd, e] using h
      have := hl hx.2
      simpa [upd, hx.1] using this
theorem dfs_left {g : Nat → List Nat} : ∀ (n i : Nat) (st : Nat → Nat) (x : Nat), 1 < st x → 1 < (dfs g n i st).2 x := by
  intro n
  induction n with
  | zero => intro i st x h; exact h
  | succ n ih =>
    intro i st x h
    by_cases hi : 0 < st i
    · simpa only [dfs, if_pos hi] using h
    · have hl := dfsL_mono (R := fun a b => 1 < a → 1 < b) (fun _ h => h) (fun a b c h1 h2 h3 => h2 (h1 h3)) ih (g i) (upd st i 1) x
      have hx : x ≠ i := fun e => by subst e; omega
      have h2 := hl (by simpa [upd, hx] using h)
      simp only [dfs, if_neg hi]
      split
      · exact h2
      · simpa [upd, hx] using h2

def whites (N : Nat) (st : Nat → Nat) : Nat := (List.range N).countP fun x => decide (st x = 0)
theorem countP_lt {α : Type} {p q : α → Bool} {a : α} (hpq : ∀ x, p x = true → q x = true) : ∀ (l : List α), a ∈ l → p a = false → q a = true → l.countP p < l.countP q := by
  intro l
  induction l with
  | nil => intro h; cases h
  | cons b l ih =>
    intro h hp hq
    have hle : l.countP p ≤ l.countP q := List.countP_mono_left fun x _ => hpq x
    rw [List.countP_cons, List.countP_cons]
    rcases List.mem_cons.1 h with rfl | h
    · simp only [hp, hq]; simp; omega
    · have := ih h hp hq
      by_cases hb : p b = true
      · simp only [hb, hpq b hb]; omega
      · simp only [hb]; simp; split <;> omega
theorem whites_le {N : Nat} {st st' : Nat → Nat} (h : ∀ x, st' x = 0 → st x = 0) : whites N st' ≤ whites N st := List.countP_mono_left fun x _ hx => by simp only [decide_eq_true_eq] at hx ⊢; exact h x hx
theorem whites_lt {N i : Nat} {st : Nat → Nat} (hi : i < N) (h : st i = 0) : whites N (upd st i 1) < whites N st := by
  refine countP_lt (a := i) (fun x hx => ?_) _ (List.mem_range.2 hi) (by simp [upd]) (by simp [h])
  have hx' : upd st i 1 x = 0 := by simpa using hx
  show decide (st x = 0) = true
  by_cases e : x = i
  · subst e; simp [upd] at hx'
  · simp only [upd, if_neg e] at hx'; simp [hx']

def Clean (g : Nat → List Nat) (st : Nat → Nat) : Prop := ∀ b, 1 < st b → ¬ Cyc g b
theorem dfsL_whole {g : Nat → List Nat} {N n : Nat} (ih : ∀ (i : Nat) (st : Nat → Nat), i < N → whites N st < n → Clean g st → (dfs g n i st).1 = false → 1 < (dfs g n i st).2 i ∧ Clean g (dfs g n i st).2) : ∀ (l : List Nat) (st : Nat → Nat), (∀ j ∈ l, j < N) → whites N st < n → Clean g st → (dfsL (dfs g n) l st).1 = false →
    (∀ j ∈ l, 1 < (dfsL (dfs g n) l st).2 j) ∧ Clean g (dfsL (dfs g n) l st).2 := by
  intro l
  induction l with
  | nil => intro st _ _ hc _; exact ⟨fun j hj => absurd hj (by simp), hc⟩
  | cons j l ihl =>
    intro st hl hw hc h
    obtain ⟨h1, h2⟩ := dfsL_cons h
    rw [h2] at h ⊢
    obtain ⟨a1, a2⟩ := ih j st (hl j (by simp)) hw hc h1
    obtain ⟨b1, b2⟩ := ihl _ (fun k hk => hl k (List.mem_cons_of_mem _ hk)) (Nat.lt_of_le_of_lt (whites_le fun x hx => dfs_grow n j st x hx) hw) a2 h
    refine ⟨fun k hk => ?_, b2⟩
    rcases List.mem_cons.1 hk with rfl | hk
    · exact dfsL_mono (R := fun a b => 1 < a → 1 < b) (fun _ h => h) (fun a b c h1 h2 h3 => h2 (h1 h3)) (fun j st x => dfs_left n j st x) l _ k a1
    · exact b1 k hk
theorem dfs_whole {g : Nat → List Nat} {N : Nat} (hg : ∀ i, ∀ j ∈ g i, j < N) : ∀ (n i : Nat) (st : Nat → Nat), i < N → whites N st < n → Clean g st → (dfs g n i st).1 = false → 1 < (dfs g n i st).2 i ∧ Clean g (dfs g n i st).2 := by
  intro n
  induction n with
  | zero => intro i st _ h; omega
  | succ n ih =>
    intro i st hiN hw hc h
    by_cases hi : 0 < st i
    · simp only [dfs, if_pos hi, decide_eq_false_iff_not] at h ⊢
      exact ⟨by omega, hc⟩
    · obtain ⟨h1, h2⟩ := dfs_white h hi
      have h0 : st i = 0 := by omega
      have hcu : Clean g (upd st i 1) := fun b hb => hc b (by
        simp only [upd] at hb
        split at hb
        · omega
        · exact hb)
      obtain ⟨a1, a2⟩ := dfsL_whole ih (g i) (upd st i 1) (hg i) (by have := whites_lt hiN h0; omega) hcu h1
      rw [h2]
      refine ⟨by simp [upd], fun b hb => ?_⟩
      by_cases e : b = i
      · subst e
        intro ⟨x, hx, hp⟩
        have key : ∃ j, j ∈ g b ∧ Cyc g j := by
          rcases rch_cases hx with rfl | ⟨j, hj, hr⟩
          · obtain ⟨j, hj, hr⟩ := hp
            exact ⟨j, hj, b, hr, j, hj, hr⟩
          · exact ⟨j, hj, x, hr, hp⟩
        obtain ⟨j, hj, hcj⟩ := key
        exact a2 j (a1 j hj) hcj
      · refine a2 b ?_
        simpa [upd, e] using hb
theorem dfs_cyc {g : Nat → List Nat} {N root : Nat} (hg : ∀ i, ∀ j ∈ g i, j < N) (hr : root < N) : (dfs g (N + 1) root (fun _ => 0)).1 = true ↔ Cyc g root := by
  constructor
  · exact dfs_sound _ _ _ (fun x hx => by cases hx)
  · intro hc
    cases h : (dfs g (N + 1) root (fun _ => 0)).1 with
    | true => rfl
    | false =>
      obtain ⟨h1, h2⟩ := dfs_whole hg (N + 1) root (fun _ => 0) hr (by
        have : whites N (fun _ => 0) ≤ (List.range N).length := List.countP_le_length
        rw [List.length_range] at this; omega) (fun b hb => by change 1 < 0 at hb; omega) h
      exact absurd hc (h2 root h1)

/-! ### by rounds -/
def mark (l : List Nat) (f : Nat → Bool) : Nat → Bool := fun x => f x || l.contains x
def roundTo (g : Nat → List Nat) (h : Nat → Bool) (f : Nat → Bool) : Nat → Nat → Bool
  | 0 => f
  | i + 1 => if (h i || roundTo g h f i i) = true then mark (g i) (roundTo g h f i) else roundTo g h f i
def rounds (g : Nat → List Nat) (N : Nat) (h : Nat → Bool) (f : Nat → Bool) : Nat → Nat → Bool
  | 0 => f
  | m + 1 => roundTo g h (rounds g N h f m) N

theorem roundTo_grow {g : Nat → List Nat} {h f : Nat → Bool} (x : Nat) : ∀ (i k : Nat), i ≤ k → roundTo g h f i x = true → roundTo g h f k x = true := by
  intro i k hik
  induction k with
  | zero => obtain rfl : i = 0 := by omega
            exact id
  | succ k ih =>
    intro hx
    by_cases e : i = k + 1
    · subst e; exact hx
    · have := ih (by omega) hx
      simp only [roundTo]
      split
      · simp only [mark, this, Bool.true_or]
      · exact this
theorem roundTo_sound {g : Nat → List Nat} {h f : Nat → Bool} {P : Nat → Prop} (hf : ∀ x, f x = true → P x) (hh : ∀ i, h i = true → ∀ j ∈ g i, P j) (hP : ∀ i, P i → ∀ j ∈ g i, P j) : ∀ (i x : Nat), roundTo g h f i x = true → P x := by
  intro i
  induction i with
  | zero => exact hf
  | succ i ih =>
    intro x hx
    simp only [roundTo] at hx
    split at hx
    · rename_i hc
      simp only [mark, Bool.or_eq_true, List.contains_iff_mem] at hx
      rcases hx with hx | hx
      · exact ih x hx
      · rw [Bool.or_eq_true] at hc
        rcases hc with hc | hc
        · exact hh i hc x hx
        · exact hP i (ih i hc) x hx
    · exact ih x hx
theorem rounds_sound {g : Nat → List Nat} {N : Nat} {h f : Nat → Bool} {P : Nat → Prop} (hf : ∀ x, f x = true → P x) (hh : ∀ i, h i = true → ∀ j ∈ g i, P j) (hP : ∀ i, P i → ∀ j ∈ g i, P j) : ∀ (m x : Nat), rounds g N h f m x = true → P x := by
  intro m
  induction m with
  | zero => exact hf
  | succ m ih => exact roundTo_sound ih hh hP N
def ClosedTo (g : Nat → List Nat) (N : Nat) (h f : Nat → Bool) : Prop := ∀ i, i < N → (h i || f i) = true → ∀ j ∈ g i, f j = true
theorem roundTo_closed {g : Nat → List Nat} {N : Nat} {h f : Nat → Bool} (hc : ClosedTo g N h f) : ∀ i, i ≤ N → roundTo g h f i = f := by
  intro i
  induction i with
  | zero => intro _; rfl
  | succ i ih =>
    intro hi
    simp only [roundTo, ih (by omega)]
    split
    · rename_i hh
      funext x
      unfold mark
      cases hx : f x with
      | true => rfl
      | false =>
        cases hm : (g i).contains x with
        | false => rfl
        | true =>
          have := hc i (by omega) hh x (by simpa [List.contains_iff_mem] using hm)
          rw [hx] at this; cases this
    · rfl
theorem roundTo_step {g : Nat → List Nat} {N : Nat} {h f : Nat → Bool} (he : ∀ x, x < N → roundTo g h f N x = true → f x = true) (hg : ∀ i, ∀ j ∈ g i, j < N) : ClosedTo g N h f := by
  intro i hi hh j hj
  have h1 : (h i || roundTo g h f i i) = true := by
    rw [Bool.or_eq_true] at hh ⊢
    rcases hh with hh | hh
    · exact .inl hh
    · exact .inr (roundTo_grow i 0 i (by omega) hh)
  have h2 : roundTo g h f (i + 1) j = true := by
    show (if (h i || roundTo g h f i i) = true then mark (g i) (roundTo g h f i) else roundTo g h f i) j = true
    rw [if_pos h1]
    simp only [mark, Bool.or_eq_true]
    exact .inr (by simpa [List.contains_iff_mem] using hj)
  exact he j (hg i j hj) (roundTo_grow j (i + 1) N (by omega) h2)
def marks (N : Nat) (f : Nat → Bool) : Nat := (List.range N).countP f
theorem rounds_closed {g : Nat → List Nat} {N : Nat} {h f : Nat → Bool} (hg : ∀ i, ∀ j ∈ g i, j < N) : ∀ m, ClosedTo g N h (rounds g N h f m) ∨ marks N f + m ≤ marks N (rounds g N h f m) := by
  intro m
  induction m with
  | zero => exact .inr (Nat.le_refl _)
  | succ m ih =>
    rcases ih with ih | ih
    · left
      have e : rounds g N h f (m + 1) = rounds g N h f m := roundTo_closed ih N (Nat.le_refl _)
      rw [e]; exact ih
    · by_cases he : ∀ x, x < N → roundTo g h (rounds g N h f m) N x = true → rounds g N h f m x = true
      · have hc := roundTo_step he hg
        have e : rounds g N h f (m + 1) = rounds g N h f m := roundTo_closed hc N (Nat.le_refl _)
        left; rw [e]; exact hc
      · right
        have he2 : ∃ x, x < N ∧ roundTo g h (rounds g N h f m) N x = true ∧ rounds g N h f m x = false := by
          apply Classical.byContradiction
          intro hn
          apply he
          intro x hx h1
          cases h2 : rounds g N h f m x with
          | true => rfl
          | false => exact absurd ⟨x, hx, h1, h2⟩ hn
        obtain ⟨x, hx, h1, h2⟩ := he2
        have hlt : marks N (rounds g N h f m) < marks N (rounds g N h f (m + 1)) := countP_lt (a := x) (fun y hy => roundTo_grow y 0 N (Nat.zero_le _) hy) _ (List.mem_range.2 hx) h2 h1
        omega
theorem full_closed {g : Nat → List Nat} {N : Nat} {h f : Nat → Bool} (hg : ∀ i, ∀ j ∈ g i, j < N) (hm : N ≤ marks N f) : ClosedTo g N h f := by
  intro i _ _ j hj
  have : ∀ x ∈ List.range N, f x = true := by
    apply List.countP_eq_length.1
    have h1 : (List.range N).countP f ≤ (List.range N).length := List.countP_le_length
    have h2 : (List.range N).length = N := List.length_range
    unfold marks at hm
    omega
  exact this j (List.mem_range.2 (hg i j hj))
theorem closed_rch {g : Nat → List Nat} {N : Nat} {h f : Nat → Bool} (hg : ∀ i, ∀ j ∈ g i, j < N) (hc : ClosedTo g N h f) : ∀ (n i k : Nat), i < N → f i = true → Walks g n i k → f k = true := by
  intro n
  induction n with
  | zero => intro i k _ hf h; cases h; exact hf
  | succ n ih =>
    intro i k hi hf h
    obtain ⟨j, hj, h⟩ := h
    exact ih j k (hg i j hj) (hc i hi (by simp [hf]) j hj) h
theorem reach_iff {g : Nat → List Nat} {N root : Nat} (hg : ∀ i, ∀ j ∈ g i, j < N) (hr : root < N) (x : Nat) : rounds g N (fun _ => false) (fun x => x == root) N x = true ↔ Rch g root x := by
  constructor
  · refine rounds_sound (P := fun x => Rch g root x) (fun x hx => ?_) (fun i hi => by cases hi) (fun i hi j hj => rch_snoc hi hj) N x
    obtain rfl : x = root := by simpa using hx
    exact rch_refl g x
  · intro ⟨n, hn⟩
    have hc : ClosedTo g N (fun _ => false) (rounds g N (fun _ => false) (fun x => x == root) N) := by
      rcases rounds_closed (h := fun _ => false) (f := fun x => x == root) hg N with h | h
      · exact h
      · exact full_closed hg (by omega)
    have hroot : rounds g N (fun _ => false) (fun x => x == root) N root = true := by
      have : ∀ m, rounds g N (fun _ => false) (fun x => x == root) m root = true := by
        intro m
        induction m with
        | zero => simp [rounds]
        | succ m ih => exact roundTo_grow root 0 N (Nat.zero_le _) ih
      exact this N
    exact closed_rch hg hc n root x hr hroot hn
theorem back_iff {g : Nat → List Nat} {N i : Nat} (hg : ∀ i, ∀ j ∈ g i, j < N) (hi : i < N) (x : Nat) : rounds g N (fun y => y == i) (fun _ => false) (N + 1) x = true ↔ Plus g i x := by
  constructor
  · refine rounds_sound (P := fun x => Plus g i x) (fun x hx => by cases hx) (fun k hk j hj => ?_) (fun k hk j hj => plus_snoc hk hj) (N + 1) x
    obtain rfl : k = i := by simpa using hk
    exact plus_edge hj
  · intro ⟨j, hj, n, hn⟩
    have hc : ClosedTo g N (fun y => y == i) (rounds g N (fun y => y == i) (fun _ => false) (N + 1)) := by
      rcases rounds_closed (h := fun y => y == i) (f := fun _ => false) hg (N + 1) with h | h
      · exact h
      · exact full_closed hg (by omega)
    exact closed_rch hg hc n j x (hg i j hj) (hc i hi (by simp) j hj) hn
/-- the document's answer -/
def loopsR (g : Nat → List Nat) (N root : Nat) : Bool := (List.range N).any fun i => rounds g N (fun _ => false) (fun x => x == root) N i && rounds g N (fun y => y == i) (fun _ => false) (N + 1) i
/-- the program's -/
def loopsD (g : Nat → List Nat) (N root : Nat) : Bool := (dfs g (N + 1) root (fun _ => 0)).1
theorem rch_lt {g : Nat → List Nat} {N : Nat} (hg : ∀ i, ∀ j ∈ g i, j < N) : ∀ (n i k : Nat), i < N → Walks g n i k → k < N := by
  intro n
  induction n with
  | zero => intro i k h e; cases e; exact h
  | succ n ih =>
    intro i k _ h
    obtain ⟨j, hj, h⟩ := h
    exact ih j k (hg i j hj) h
theorem loopsR_cyc {g : Nat → List Nat} {N root : Nat} (hg : ∀ i, ∀ j ∈ g i, j < N) (hr : root < N) : loopsR g N root = true ↔ Cyc g root := by
  unfold loopsR
  rw [List.any_eq_true]
  constructor
  · intro ⟨i, hi, h⟩
    rw [Bool.and_eq_true] at h
    exact ⟨i, (reach_iff hg hr i).1 h.1, (back_iff hg (List.mem_range.1 hi) i).1 h.2⟩
  · intro ⟨x, hx, hp⟩
    obtain ⟨n, hn⟩ := hx
    have hxN := rch_lt hg n root x hr hn
    refine ⟨x, List.mem_range.2 hxN, ?_⟩
    rw [Bool.and_eq_true]
    exact ⟨(reach_iff hg hr x).2 ⟨n, hn⟩, (back_iff hg hxN x).2 hp⟩
theorem loops_same {g : Nat → List Nat} {N root : Nat} (hg : ∀ i, ∀ j ∈ g i, j < N) (hr : root < N) : loopsD g N root = loopsR g N root := by
  rw [Bool.eq_iff_iff]
  exact (dfs_cyc hg hr).trans (loopsR_cyc hg hr).symm
/-- where each leads on alone, none comes back -/
theorem loops_tree {g : Nat → List Nat} {N root : Nat} (hg : ∀ i, ∀ j ∈ g i, j < N) (hr : root < N) (hup : ∀ i, ∀ j ∈ g i, i < j) : loopsD g N root = false := by
  cases h : loopsD g N root with
  | false => rfl
  | true =>
    exfalso
    obtain ⟨x, _, j, hj, n, hn⟩ := (dfs_cyc hg hr).1 h
    have hle : ∀ (n i k : Nat), Walks g n i k → i ≤ k := by
      intro n
      induction n with
      | zero => intro i k e; cases e; exact Nat.le_refl _
      | succ n ih =>
        intro i k h
        obtain ⟨j, hj, h⟩ := h
        exact Nat.le_trans (Nat.le_of_lt (hup i j hj)) (ih j k h)
    have := hle n j x hn
    have := hup x j hj
    omega

end Go.Proofs.Ytgoaiokpnifhfaa

/-
  What a made schema is: facts for its text.
-/
namespace Go.Proofs.Ytgoaiokpnifhfaa
open Go.RowKit
set_option linter.unusedVariables false
set_option linter.unusedSimpArgs false

structure FldOk (s : FSchema) (f : FField) : Prop where
  name : f.name.size ≤ 7
  k1 : 1 ≤ f.kind
  k13 : f.kind ≤ 13
  l0 : 0 ≤ f.lists
  l3 : f.lists ≤ 3
  d0 : 0 ≤ f.df
  d1 : f.df < 18446744073709551616
  en : f.kind = 10 → 0 ≤ f.ref ∧ f.ref < (s.enums.length : Int) ∧ f.df < ((cget s.enums f.ref.toNat).names.length : Int)
  st : f.kind = 13 → 0 ≤ f.ref ∧ f.ref < (s.structs.length : Int)
structure RecOk (s : FSchema) (r : FRecord) : Prop where
  name1 : 1 ≤ r.name.size
  name : r.name.size ≤ 2
  most : r.fields.length ≤ 16
  flds : ∀ f ∈ r.fields, FldOk s f
structure ChoOk (c : FChoice) : Prop where
  name1 : 1 ≤ c.name.size
  name : c.name.size ≤ 2
  most : c.names.length ≤ 32
  nms : ∀ k, k < c.names.length → (sget c.names k).size ≤ 3
/-- what is known of a schema that a plan makes -/
structure SchOk (s : FSchema) : Prop where
  n1 : 1 ≤ s.structs.length
  n16 : s.structs.length ≤ 16
  e8 : s.enums.length ≤ 8
  r0 : 0 ≤ s.root
  r1 : s.root < (s.structs.length : Int)
  recs : ∀ i, i < s.structs.length → RecOk s (rget s.structs i)
  chos : ∀ i, i < s.enums.length → ChoOk (cget s.enums i)

theorem bytesStr_size (ns : List Int) : (bytesStr ns).size = ns.length := by
  unfold bytesStr
  have h : ∀ (l : List Int) (r : ByteArray), (l.foldl (fun r n => r.push (UInt8.ofNat n.toNat)) r).size = r.size + l.length := by
    intro l
    induction l with
    | nil => intro r; simp
    | cons a l ih => intro r; simp only [List.foldl_cons, ih, ByteArray.size_push, List.length_cons]; omega
  rw [h]; simp
theorem labelOf_size (n : Int) (i : Nat) : (labelOf n i).size ≤ 7 := by
  unfold labelOf
  rw [ByteArray.size_append, bytesStr_size]
  have : (labelHead (n % 10).toNat).size ≤ 6 := by unfold labelHead; split <;> decide
  simp only [List.length_cons, List.length_nil]
  omega
theorem nameOf_size (h : Int) (i : Nat) : (nameOf h i).size = 2 := by
  unfold nameOf
  rw [ByteArray.size_append, bytesStr_size, bytesStr_size]; rfl
theorem valName_size (k : Nat) : (valName k).size = 3 := by
  unfold valName
  rw [ByteArray.size_append, bytesStr_size, bytesStr_size]; rfl
theorem signedOf_bd (n sz : Int) (h0 : 0 ≤ n) (h1 : n < 18446744073709551616) : 0 ≤ signedOf n sz ∧ signedOf n sz < 18446744073709551616 := by
  unfold signedOf
  repeat' split
  all_goals omega
theorem numberOf_bd (nm k n : Int) (hn : 0 < nm) (hn2 : nm ≤ 32) (h0 : 0 ≤ n) (h1 : n < 18446744073709551616) : 0 ≤ numberOf nm k n ∧ numberOf nm k n < 18446744073709551616 ∧ (k = 10 → numberOf nm k n < nm) := by
  have hm0 : 0 ≤ n % nm := Int.emod_nonneg _ (by omega)
  have hm1 : n % nm < nm := Int.emod_lt_of_pos _ hn
  by_cases hk : k = 10
  · subst hk
    have e : numberOf nm 10 n = n % nm := by unfold numberOf; rfl
    rw [e]
    exact ⟨hm0, by omega, fun _ => hm1⟩
  · refine ⟨?_, ?_, fun e => absurd e hk⟩
    · unfold numberOf
      have a1 := (signedOf_bd (n % 256) 1 (by omega) (by omega)).1
      have a2 := (signedOf_bd (n % 65536) 2 (by omega) (by omega)).1
      have a3 := (signedOf_bd (n % 4294967296) 4 (by omega) (by omega)).1
      have a4 := (signedOf_bd n 8 h0 h1).1
      repeat' split
      all_goals first | assumption | omega
    · unfold numberOf
      have a1 := (signedOf_bd (n % 256) 1 (by omega) (by omega)).2
      have a2 := (signedOf_bd (n % 65536) 2 (by omega) (by omega)).2
      have a3 := (signedOf_bd (n % 4294967296) 4 (by omega) (by omega)).2
      have a4 := (signedOf_bd n 8 h0 h1).2
      repeat' split
      all_goals first | assumption | omega
theorem valCount_bd (n : Int) (h : byteOk n) : 1 ≤ valCount n ∧ valCount n ≤ 32 := by
  unfold valCount; have := h.1; omega
theorem iget_mem' (l : List Int) (i : Nat) (h : i < l.length) : iget l i ∈ l := by unfold iget; rw [getElem!_pos l i h]; exact List.getElem_mem h

theorem made_fld_ok (p : PlanD) (hok : planOk p) (he : ∀ n ∈ p.enums, byteOk n) (i k : Nat) (hi : i < p.structs.length) (f : PField) (hf : f.ok) : FldOk (madeP p) (madeField p i k f) := by
  obtain ⟨hk, hl, hr, hn, hd0, hd1⟩ := hf
  have k0 : 1 ≤ kind0 f ∧ kind0 f ≤ 13 := by unfold kind0; omega
  have k1 : 1 ≤ kind1 p f ∧ kind1 p f ≤ 13 := by unfold kind1; split <;> omega
  have k2 : 1 ≤ kind2 p i f ∧ kind2 p i f ≤ 13 := by unfold kind2; split <;> omega
  have hen : (madeP p).enums.length = p.enums.length := by simp [madeP]
  have hst : (madeP p).structs.length = p.structs.length := by simp [madeP]
  have hke : kind2 p i f = 10 → 0 < p.enums.length := fun h => by
    have h1 : kind1 p f = 10 := by
      unfold kind2 at h
      split at h
      · omega
      · exact h
    unfold kind1 at h1
    split at h1
    · omega
    · rename_i hh
      have : ¬ p.enums.length = 0 := fun e => hh ⟨h1, e⟩
      omega
  have href : kind2 p i f = 10 → ref2 p i f = f.ref % (p.enums.length : Int) := fun h => by unfold ref2; rw [if_pos h]
  have hrb : kind2 p i f = 10 → 0 ≤ ref2 p i f ∧ ref2 p i f < (p.enums.length : Int) := fun h => by
    rw [href h]
    have := hke h
    exact ⟨Int.emod_nonneg _ (by omega), Int.emod_lt_of_pos _ (by omega)⟩
  have hvc : kind2 p i f = 10 → valCount (iget p.enums (ref2 p i f).toNat) = (cget (madeP p).enums (ref2 p i f).toNat).names.length := fun h => by
    have hb := hrb h
    rw [madeP, cget_map _ _ _ (by omega)]
    simp [madeChoice, madeNames]
  have hvb : (0 : Int) < (valCount (iget p.enums (ref2 p i f).toNat) : Int) := by unfold valCount; omega
  have hvb2 : ∀ x : Int, (valCount x : Int) ≤ 32 ∧ (0 : Int) < valCount x := fun x => by
    unfold valCount
    have := Int.emod_nonneg x (show (32 : Int) ≠ 0 by decide)
    have := Int.emod_lt_of_pos x (show (0 : Int) < 32 by decide)
    omega
  have hnb := numberOf_bd (valCount (iget p.enums (ref2 p i f).toNat) : Int) (kind2 p i f) f.df hvb (hvb2 _).1 hd0 hd1
  refine ⟨labelOf_size _ _, k2.1, k2.2, ?_, ?_, ?_, ?_, ?_, ?_⟩
  · simp only [madeField]; have := hl.1; omega
  · simp only [madeField]; have := hl.1; omega
  · simp only [madeField]; split
    · exact hnb.1
    · exact Int.le_refl _
  · simp only [madeField]; split
    · exact hnb.2.1
    · decide
  · intro h
    have h' : kind2 p i f = 10 := h
    have hb := hrb h'
    refine ⟨hb.1, by rw [hen]; exact hb.2, ?_⟩
    show (madeField p i k f).df < ((cget (madeP p).enums (ref2 p i f).toNat).names.length : Int)
    rw [← hvc h']
    simp only [madeField]
    split
    · exact hnb.2.2 h'
    · exact hvb
  · intro h
    have h' : kind2 p i f = 13 := h
    rw [hst]
    show 0 ≤ ref2 p i f ∧ ref2 p i f < (p.structs.length : Int)
    have h10 : ¬ kind2 p i f = 10 := by omega
    unfold ref2
    rw [if_neg h10, if_pos h']
    by_cases ht : p.tree = true
    · rw [if_pos ht]
      have hne : i + 1 ≠ p.structs.length := fun e => by
        unfold kind2 at h'
        split at h'
        · omega
        · rename_i hh
          exact hh ⟨h', ht, e⟩
      have hpos : (0 : Int) < (p.structs.length : Int) - i - 1 := by omega
      have a := Int.emod_nonneg f.ref (show (p.structs.length : Int) - i - 1 ≠ 0 by omega)
      have b := Int.emod_lt_of_pos f.ref hpos
      omega
    · rw [if_neg ht]
      have h1 := hok.1
      exact ⟨Int.emod_nonneg _ (by omega), Int.emod_lt_of_pos _ (by omega)⟩

theorem made_sch_ok (p : PlanD) (hok : planOk p) (hroot : byteOk p.root) (he : ∀ n ∈ p.enums, byteOk n) (hf : ∀ l ∈ p.structs, ∀ f ∈ l, f.ok) : SchOk (madeP p) := by
  have hen : (madeP p).enums.length = p.enums.length := by simp [madeP]
  have hst : (madeP p).structs.length = p.structs.length := by simp [madeP]
  have h1 := hok.1
  have hrt : (madeP p).root = p.root % (p.structs.length : Int) := rfl
  refine ⟨by rw [hst]; exact hok.1, by rw [hst]; exact hok.2.1, by rw [hen]; exact hok.2.2.1, ?_, ?_, fun i hi => ?_, fun i hi => ?_⟩
  · rw [hrt]; exact Int.emod_nonneg _ (by omega)
  · rw [hrt, hst]; exact Int.emod_lt_of_pos _ (by omega)
  · rw [hst] at hi
    have hl := hok.2.2.2 _ (psget_mem p.structs i hi)
    have e : rget (madeP p).structs i = madeRecord p i := by rw [madeP, rget_map _ _ _ hi]
    rw [e]
    refine ⟨by rw [madeRecord, nameOf_size]; decide, by rw [madeRecord, nameOf_size]; exact Nat.le_refl _, by simp [madeRecord, madeFields]; omega, fun f hff => ?_⟩
    simp only [madeRecord, madeFields, List.mem_map] at hff
    obtain ⟨k, hk, rfl⟩ := hff
    exact made_fld_ok p hok he i k hi _ (hf _ (psget_mem p.structs i hi) _ (pfget_mem _ k (List.mem_range.1 hk)))
  · rw [hen] at hi
    have e : cget (madeP p).enums i = madeChoice p.enums i := by rw [madeP, cget_map _ _ _ hi]
    rw [e]
    have hv := valCount_bd _ (he _ (iget_mem' p.enums i hi))
    refine ⟨by rw [madeChoice, nameOf_size]; decide, by rw [madeChoice, nameOf_size]; exact Nat.le_refl _, by simp [madeChoice, madeNames]; exact hv.2, fun k hk => ?_⟩
    have hk2 : k < valCount (iget p.enums i) := by simpa [madeChoice, madeNames] using hk
    have : sget (madeChoice p.enums i).names k = valName k := by
      unfold sget
      rw [getElem!_pos _ k hk]
      simp [madeChoice, madeNames]
    rw [this, valName_size]; exact Nat.le_refl _

/-- the fields of a plan that is in memory are bytes -/
theorem plan_flds {w : World} {v : Value} {p : PlanD} (h : PlanAt w v p) : ∀ l ∈ p.structs, ∀ f ∈ l, f.ok := by
  obtain ⟨⟨A, ce, B, cs, rfl, hE, hS⟩, _, _⟩ := h
  intro l hl f hf
  obtain ⟨i, hi, rfl⟩ := List.mem_iff_getElem.1 hl
  obtain ⟨b, o, _, _, hc⟩ := hS (by omega)
  obtain ⟨u, _, A', c', _, hok, _⟩ := hc i hi
  refine hok f ?_
  unfold psget
  rw [getElem!_pos p.structs i hi]
  exact hf

end Go.Proofs.Ytgoaiokpnifhfaa

/-
  schema.Loops: marks in memory, and what visits.
-/
namespace Go.Proofs.Ytgoaiokpnifhfaa
open Go.RowKit
set_option linter.unusedVariables false
set_option linter.unusedSimpArgs false

/-- the structs to which so many fields lead -/
def outsTo (fs : List FField) : Nat → List Nat
  | 0 => []
  | k + 1 => outsTo fs k ++ (if (fget fs k).kind = 13 then [(fget fs k).ref.toNat] else [])
def outsS (s : FSchema) (i : Nat) : List Nat := outsTo (rget s.structs i).fields (rget s.structs i).fields.length
theorem outsTo_pre (fs : List FField) (k : Nat) : ∀ m, k ≤ m → ∃ l, outsTo fs m = outsTo fs k ++ l := by
  intro m
  induction m with
  | zero => intro h; obtain rfl : k = 0 := by omega
            exact ⟨[], by simp⟩
  | succ m ih =>
    intro h
    by_cases e : k = m + 1
    · subst e; exact ⟨[], by simp⟩
    · obtain ⟨l, hl⟩ := ih (by omega)
      exact ⟨_, by rw [outsTo, hl, List.append_assoc]⟩
theorem dfsL_app {v : Nat → (Nat → Nat) → Bool × (Nat → Nat)} (l2 : List Nat) : ∀ (l1 : List Nat) (st : Nat → Nat), dfsL v (l1 ++ l2) st = if (dfsL v l1 st).1 = true then dfsL v l1 st else dfsL v l2 (dfsL v l1 st).2 := by
  intro l1
  induction l1 with
  | nil => intro st; simp [dfsL]
  | cons a l1 ih =>
    intro st
    simp only [List.cons_append, dfsL]
    by_cases h : (v a st).1 = true
    · simp only [if_pos h]; simp
    · simp only [if_neg h]; exact ih _
theorem dfsL_one {v : Nat → (Nat → Nat) → Bool × (Nat → Nat)} (a : Nat) (st : Nat → Nat) : dfsL v [a] st = v a st := by
  simp only [dfsL]
  by_cases h : (v a st).1 = true
  · rw [if_pos h]; exact Prod.ext h.symm rfl
  · rw [if_neg h]; exact Prod.ext (by simpa using Eq.symm (by simpa using h)) rfl

/-- a row of numbers -/
def rowN (N : Nat) (f : Nat → Nat) : Obj := .cells ((List.range N).map fun x => Value.int .i64 (f x : Int)).toArray 3 (0, 0)
theorem rowN_cell {w : World} {b N : Nat} {f : Nat → Nat} (h : w.heap[b]? = some (rowN N f)) (x : Nat) (hx : x < N) : w.cell? ⟨b, x, none⟩ = some (.int .i64 (f x : Int)) := by
  rw [blk_cell h]; simp [hx]
theorem rowN_set (w : World) (b N : Nat) (f : Nat → Nat) (h : w.heap[b]? = some (rowN N f)) (k v : Nat) (hk : k < N) : (w.setCell ⟨b, k, none⟩ (.int .i64 (v : Int))).heap[b]? = some (rowN N (upd f k v)) := by
  rw [blk_set h]
  unfold rowN
  congr 2
  apply Array.ext
  · simp
  · intro i h1 h2
    have hi : i < N := by simpa using h1
    rw [Array.getElem_setIfInBounds (by simp [hi])]
    by_cases e : k = i
    · subst e; simp [upd]
    · rw [if_neg e]
      have e2 : ¬ i = k := fun h => e h.symm
      simp [upd, e2]

/-- while it visits -/
structure VisAt (w0 : World) (aS : Option Addr) (cS : Nat) (vE : Value) (rt : Int) (n C S V G : Nat) (st : Nat → Nat) (w : World) : Prop where
  below : Below w0.heap.size w0 w
  c : w.heap[C]? = some (.cells #[.slice (some ⟨G, 0, none⟩) n n] 83 (0, 0))
  s : w.heap[S]? = some (.cells #[.slice aS n cS, vE, .int .i64 rt] 52 (0, 0))
  v : w.heap[V]? = some (.cells #[.func (.func 18) #[] #[.pointer (some ⟨C, 0, none⟩), .pointer (some ⟨S, 0, none⟩), .pointer (some ⟨V, 0, none⟩)]] 84 (0, 0))
  g : w.heap[G]? = some (rowN n st)
  lc : w0.heap.size ≤ C
  ls : w0.heap.size ≤ S
  lv : w0.heap.size ≤ V
  lg : w0.heap.size ≤ G
  cg : C ≠ G
  sg : S ≠ G
  vg : V ≠ G
theorem VisAt.run {w0 : World} {aS : Option Addr} {cS : Nat} {vE : Value} {rt : Int} {n C S V G : Nat} {st : Nat → Nat} {w w' : World} (h : VisAt w0 aS cS vE rt n C S V G st w) (hb : Below w.heap.size w w') : VisAt w0 aS cS vE rt n C S V G st w' :=
  { h with below := h.below.trans (hb.mono h.below.size), c := blk_below h.c hb (blk_lt h.c), s := blk_below h.s hb (blk_lt h.s), v := blk_below h.v hb (blk_lt h.v), g := blk_below h.g hb (blk_lt h.g) }
theorem VisAt.put {w0 : World} {aS : Option Addr} {cS : Nat} {vE : Value} {rt : Int} {n C S V G : Nat} {st : Nat → Nat} {w : World} (h : VisAt w0 aS cS vE rt n C S V G st w) (k v : Nat) (hk : k < n) : VisAt w0 aS cS vE rt n C S V G (upd st k v) (w.setCell ⟨G, k, none⟩ (.int .i64 (v : Int))) :=
  { h with below := h.below.setCell h.lg _, c := blk_set_ne h.c _ h.cg _, s := blk_set_ne h.s _ h.sg _, v := blk_set_ne h.v _ h.vg _, g := rowN_set w G n st h.g k v hk }

/-- what a visit comes to -/
structure VisPost (w0 : World) (aS : Option Addr) (cS : Nat) (vE : Value) (rt : Int) (n C S V G : Nat) (r : Bool × (Nat → Nat)) (e : Ending) (w' : World) : Prop where
  val : e = .returned (.bool r.1)
  below : Below w0.heap.size w0 w'
  st : r.1 = false → VisAt w0 aS cS vE rt n C S V G r.2 w'

set_option maxHeartbeats 4000000 in
set_option maxRecDepth 100000 in
theorem visit_calls (s : FSchema) (hok : SchOk s) (w0 : World) (aS aE : Option Addr) (cS : Nat) (vE : Value) (rt : Int) (hrows : SchRows w0 aS aE s) (C S V G : Nat) : ∀ (m i : Nat) (st : Nat → Nat) (w : World), i < s.structs.length → whites s.structs.length st < m →
    VisAt w0 aS cS vE rt s.structs.length C S V G st w →
    Calls Try.prog 18 #[.int .i64 (i : Int), .pointer (some ⟨C, 0, none⟩), .pointer (some ⟨S, 0, none⟩), .pointer (some ⟨V, 0, none⟩)] w (VisPost w0 aS cS vE rt s.structs.length C S V G (dfs (outsS s) m i st)) := by
  obtain ⟨n, hn⟩ : ∃ n, n = s.structs.length := ⟨_, rfl⟩
  rw [← hn]
  have hn16 : n ≤ 16 := by rw [hn]; exact hok.n16
  have HN := Lib.hid hn
  have HOK := Lib.hid hok
  have HR := Lib.hid hrows
  clear hn hok hrows
  intro m
  induction m with
  | zero => intro i st w _ h; omega
  | succ m ih =>
    intro i st w hi hw hV
    have HIH := Lib.hid ih
    have c0 : w.cell? ⟨C, 0, none⟩ = some (.slice (some ⟨G, 0, none⟩) n n) := by rw [blk_cell hV.c]; rfl
    have g0 := rowN_cell hV.g i hi
    have gf : w.frozen? ⟨G, i, none⟩ = false := blk_frozen hV.g i
    have lC := blk_lt hV.c
    have lG := blk_lt hV.g
    have hiI : (i : Int) < (n : Int) := by omega
    have HV := Lib.hid hV
    have HW := Lib.hid hw
    clear ih hV hw
    by_cases h0 : 0 < st i
    · have d0 : decide (0 < (st i : Int)) = true := decide_eq_true (by omega)
      have e : dfs (outsS s) (m + 1) i st = (decide (st i = 1), st) := by simp only [dfs, if_pos h0]
      rw [e]
      clear e
      generalize st i = x at *
      go_enter Try.func18, Try.ntmps18
      go_wp2_with fail
      go_ret
      refine ⟨?_, HV.out.below, fun _ => HV.out⟩
      simp
      rw [Bool.eq_iff_iff]
      simp
      omega
    · have hx : st i = 0 := by omega
      rw [hx] at g0
      go_enter Try.func18, Try.ntmps18
      go_upto_region 4 with (fail)
      obtain ⟨w1, hw1⟩ : ∃ w1, w1 = w.setCell ⟨G, i, none⟩ (.int .i64 1) := ⟨_, rfl⟩
      rw [← hw1]
      have hV1 : VisAt w0 aS cS vE rt n C S V G (upd st i 1) w1 := by rw [hw1]; exact HV.out.put i 1 hi
      have hwl : whites n (upd st i 1) < m := by have := whites_lt hi hx; have := HW.out; omega
      obtain ⟨b, o, b', c', rfl, hb, _, p1', hb', hfs⟩ := HR.out.st i (by rw [← HN.out]; exact hi)
      have p1 := (hV1.below.cell (p := ⟨b, o + i * 2 + 1, none⟩) hb).trans p1'
      clear p1'
      have hz1 := hV1.below.size
      have lb1 : b < w1.heap.size := by omega
      have hro := HOK.out.recs i (by rw [← HN.out]; exact hi)
      have hou : outsS s i = outsTo (rget s.structs i).fields (rget s.structs i).fields.length := rfl
      have hD : dfs (outsS s) (m + 1) i st = if (dfsL (dfs (outsS s) m) (outsS s i) (upd st i 1)).1 = true then (true, (dfsL (dfs (outsS s) m) (outsS s i) (upd st i 1)).2) else (false, upd (dfsL (dfs (outsS s) m) (outsS s i) (upd st i 1)).2 i 2) := by simp only [dfs, if_neg h0]
      rw [hou] at hD
      clear hou
      obtain ⟨st1, hst1⟩ : ∃ st1, st1 = upd st i 1 := ⟨_, rfl⟩
      rw [← hst1] at hwl hV1 hD
      have hfl := hro.most
      have hfd := hro.flds
      generalize (rget s.structs i).fields = fs at *
      have c1 : w1.cell? ⟨C, 0, none⟩ = some (.slice (some ⟨G, 0, none⟩) n n) := by rw [blk_cell hV1.c]; rfl
      have s1 : w1.cell? ⟨S, 0, none⟩ = some (.slice (some ⟨b, o, none⟩) n cS) := by rw [blk_cell hV1.s]; rfl
      have lC1 := blk_lt hV1.c
      have lS1 := blk_lt hV1.s
      have HV1 := Lib.hid hV1
      have HWL := Lib.hid hwl
      have HFS := Lib.hid hfs
      have HFD := Lib.hid hfd
      have HDD := Lib.hid hD
      clear hD hw1 hst1 g0 gf c0 lC lG HV HW hro hfs hwl hV1 hfd
      go_wp2_with fail
      go_loopw [28] (fun v28 wr => ∃ (k : Nat) (st' : Nat → Nat), v28 = .int .i64 (k : Int) ∧ k ≤ fs.length ∧ Hid (dfsL (dfs (outsS s) m) (outsTo fs k) st1 = (false, st')) ∧ Hid (whites n st' < m) ∧ Hid (VisAt w0 (some ⟨b, o, none⟩) cS vE rt n C S V G st' wr) ) (fun v28 _ => fs.length - (intOf v28).toNat)
      case atStart => exact ⟨0, st1, rfl, by omega, rfl, HWL.out, HV1.out⟩
      case round =>
        obtain ⟨k, st', rfl, hk, hD, hwl, hV⟩ := hrel
        rename World => wr
        have hz := hV.out.below.size
        by_cases hkn : k < fs.length
        · have hkI : (k : Int) < (fs.length : Int) := by omega
          obtain ⟨q0, q1, q2, q3, q4⟩ := (FieldsAt.below HFS.out hV.out.below hb') k hkn
          rw [Nat.zero_add] at q0 q1 q2 q3 q4
          have hok := HFD.out _ (fget_mem fs k hkn)
          have hout : outsTo fs (k + 1) = outsTo fs k ++ (if (fget fs k).kind = 13 then [(fget fs k).ref.toNat] else []) := rfl
          obtain ⟨rest, hrest⟩ := outsTo_pre fs (k + 1) fs.length hkn
          have HREST := Lib.hid hrest
          have hst := hok.st
          generalize fget fs k = f at *
          obtain ⟨fn, kd, rf, ls, df⟩ := f
          simp only at q0 q1 q2 q3 q4 hst hout
          have lb' : b' < wr.heap.size := by omega
          have hcv : wr.cell? ⟨V, 0, none⟩ = some (.func (.func 18) #[] #[.pointer (some ⟨C, 0, none⟩), .pointer (some ⟨S, 0, none⟩), .pointer (some ⟨V, 0, none⟩)]) := by rw [blk_cell hV.out.v]; rfl
          have lV := blk_lt hV.out.v
          clear hrest hok
          by_cases hkd : kd = 13
          · obtain ⟨r0, r1⟩ := hst hkd
            rw [if_pos hkd] at hout
            have hdk : decide (kd = 13) = true := decide_eq_true hkd
            obtain ⟨j, rfl⟩ := Int.eq_ofNat_of_zero_le r0
            have HO := Lib.hid hout
            subst hkd
            clear hst hout r0
            go_wp2_with fail
            refine (HIH.out j st' _ (by rw [HN.out]; omega) hwl.out (hV.out.run (below1 _ _))).mono ?_
            rintro e w2 hP
            have hval := hP.val
            subst hval
            have hgr := fun x h => dfs_grow (g := outsS s) m j st' x h
            have hk1 : dfsL (dfs (outsS s) m) (outsTo fs (k + 1)) st1 = dfs (outsS s) m j st' := by
              rw [HO.out, dfsL_app, hD.out]
              simp only
              rw [if_neg (by simp), dfsL_one, Int.toNat_natCast]
            have HP := Lib.hid hP
            generalize dfs (outsS s) m j st' = rr at *
            obtain ⟨bb, st2⟩ := rr
            have HK1 := Lib.hid hk1
            have HGR := Lib.hid hgr
            clear hP hgr hk1
            cases bb with
            | true =>
              go_wp2_with fail
              go_ret
              have e1 : dfsL (dfs (outsS s) m) (outsTo fs fs.length) st1 = (true, st2) := by rw [HREST.out, dfsL_app, HK1.out]; simp
              rw [HDD.out, e1]
              exact ⟨rfl, HP.out.below, fun h => by cases h⟩
            | false =>
              go_wp2_with fail
              go_roundw
              case rel => exact ⟨k + 1, st2, by go_num, by omega, HK1.out, Nat.lt_of_le_of_lt (whites_le HGR.out) hwl.out, HP.out.st rfl⟩
              case measure => simp [intOf]; omega
          · rw [if_neg hkd, List.append_nil] at hout
            have hdk : decide (kd = 13) = false := decide_eq_false hkd
            have HO := Lib.hid hout
            clear hst hout
            go_wp2_with fail
            go_roundw
            case rel => exact ⟨k + 1, st', by go_num, by omega, by rw [Hid] at hD ⊢; rw [HO.out]; exact hD, hwl, hV.out.run (below1 _ _)⟩
            case measure => simp [intOf]; omega
        · obtain rfl : k = fs.length := by omega
          have cw : wr.cell? ⟨C, 0, none⟩ = some (.slice (some ⟨G, 0, none⟩) n n) := by rw [blk_cell hV.out.c]; rfl
          have lCw := blk_lt hV.out.c
          have lGw := blk_lt hV.out.g
          have gw := rowN_cell hV.out.g i hi
          have gfw : wr.frozen? ⟨G, i, none⟩ = false := blk_frozen hV.out.g i
          have hP := hV.out.put i 2 hi
          generalize st' i = x at *
          clear hb'
          go_wp2_with fail
          go_ret
          rw [HDD.out, hD.out]
          exact ⟨rfl, hP.below, fun _ => hP⟩

theorem rowN_made (n : Nat) : rowN n (fun _ => 0) = .cells (madeCells #[Value.int .i64 0] n) 3 (0, 0) := by
  unfold rowN
  congr 1
  apply Array.ext
  · simp [size_madeCells]
  · intro i h1 h2
    simp [madeCells, Nat.mod_one]
theorem lay1 (w : World) (a b c d : Obj) : ((((w.alloc a).alloc b).alloc c).alloc d).heap[w.heap.size]? = some a := blk_alloc (blk_alloc (blk_alloc (blk_new w a) _) _) _
theorem lay2 (w : World) (a b c d : Obj) : ((((w.alloc a).alloc b).alloc c).alloc d).heap[w.heap.size + 1]? = some b := by
  have := blk_new (w.alloc a) b
  rw [World.size_alloc] at this
  exact blk_alloc (blk_alloc this _) _
theorem lay3 (w : World) (a b c d : Obj) : ((((w.alloc a).alloc b).alloc c).alloc d).heap[w.heap.size + 1 + 1]? = some c := by
  have := blk_new ((w.alloc a).alloc b) c
  rw [World.size_alloc, World.size_alloc] at this
  exact blk_alloc this _
theorem lay4 (w : World) (a b c d : Obj) : ((((w.alloc a).alloc b).alloc c).alloc d).heap[w.heap.size + 1 + 1 + 1]? = some d := by
  have := blk_new (((w.alloc a).alloc b).alloc c) d
  rw [World.size_alloc, World.size_alloc, World.size_alloc] at this
  exact this
theorem lay_below (w : World) (a b c d : Obj) : Below w.heap.size w ((((w.alloc a).alloc b).alloc c).alloc d) := ((((below1 w a).alloc (by simp) b).alloc (by simp; omega) c).alloc (by simp; omega) d)
theorem outsS_lt {s : FSchema} (hok : SchOk s) (i : Nat) (hi : i < s.structs.length) : ∀ j ∈ outsS s i, j < s.structs.length := by
  have hro := hok.recs i hi
  have key : ∀ k, k ≤ (rget s.structs i).fields.length → ∀ j ∈ outsTo (rget s.structs i).fields k, j < s.structs.length := by
    intro k
    induction k with
    | zero => intro _ j hj; cases hj
    | succ k ih =>
      intro hk j hj
      rw [outsTo, List.mem_append] at hj
      rcases hj with hj | hj
      · exact ih (by omega) j hj
      · split at hj
        · rename_i h13
          obtain rfl := List.mem_singleton.1 hj
          have := (hro.flds _ (fget_mem _ k (by omega))).st h13
          omega
        · cases hj
  exact key _ (Nat.le_refl _)

set_option maxHeartbeats 1000000 in
set_option maxRecDepth 100000 in
theorem loops_calls (s : FSchema) (hok : SchOk s) (aS aE : Option Addr) (cS cE : Nat) (w : World) (h : SchRows w aS aE s) :
    Calls Try.prog 10 #[.agg #[.slice aS s.structs.length cS, .slice aE s.enums.length cE, .int .i64 s.root]] w fun e w' => e = .returned (.bool (loopsD (outsS s) s.structs.length s.root.toNat)) ∧ Below w.heap.size w w' := by
  have hr0 := hok.r0
  have hr1 := hok.r1
  have hn16 := hok.n16
  obtain ⟨root, hroot⟩ : ∃ root : Nat, s.root = (root : Int) := ⟨s.root.toNat, by omega⟩
  rw [hroot] at hr1 ⊢
  have hrl : root < s.structs.length := by omega
  have HV := Lib.hid (fun C S V G => visit_calls s hok w aS aE cS (.slice aE s.enums.length cE) (root : Int) h C S V G (s.structs.length + 1) root (fun _ => 0))
  have hwh : whites s.structs.length (fun _ => 0) < s.structs.length + 1 := by
    have : whites s.structs.length (fun _ => 0) ≤ (List.range s.structs.length).length := List.countP_le_length
    rw [List.length_range] at this; omega
  rw [Int.toNat_natCast]
  unfold loopsD
  clear h hok hroot hr0
  generalize s.structs.length = n at *
  have m1 : ∀ w : World, (Instr.makeSlice 83 (.int .i64 (n : Int)) (.int .i64 (n : Int))).run Try.prog w = .ok (.slice (some ⟨w.heap.size, 0, none⟩) n n) (w.alloc (.cells (madeCells #[.int .i64 0] n) 3)) := fun w => run_make_row' (P := Try.prog) 83 3 (.int .i64 0) 8 Try.underlying83 info_int rfl .i64 .i64 n (by omega) (by omega) w
  rw [← rowN_made] at m1
  go_enter Try.func10, Try.ntmps10
  go_upto_region 3 with (fail)
  have b1 := lay1 w (Obj.cells #[.slice aS n cS, .slice aE s.enums.length cE, .int .i64 (root : Int)] 52) (rowN n fun _ => 0) (Obj.cells #[.slice (some ⟨w.heap.size + 1, 0, none⟩) n n] 83) (Obj.cells #[.nilFunc] 84)
  have b2 := lay2 w (Obj.cells #[.slice aS n cS, .slice aE s.enums.length cE, .int .i64 (root : Int)] 52) (rowN n fun _ => 0) (Obj.cells #[.slice (some ⟨w.heap.size + 1, 0, none⟩) n n] 83) (Obj.cells #[.nilFunc] 84)
  have b3 := lay3 w (Obj.cells #[.slice aS n cS, .slice aE s.enums.length cE, .int .i64 (root : Int)] 52) (rowN n fun _ => 0) (Obj.cells #[.slice (some ⟨w.heap.size + 1, 0, none⟩) n n] 83) (Obj.cells #[.nilFunc] 84)
  have b4 := lay4 w (Obj.cells #[.slice aS n cS, .slice aE s.enums.length cE, .int .i64 (root : Int)] 52) (rowN n fun _ => 0) (Obj.cells #[.slice (some ⟨w.heap.size + 1, 0, none⟩) n n] 83) (Obj.cells #[.nilFunc] 84)
  have bb := lay_below w (Obj.cells #[.slice aS n cS, .slice aE s.enums.length cE, .int .i64 (root : Int)] 52) (rowN n fun _ => 0) (Obj.cells #[.slice (some ⟨w.heap.size + 1, 0, none⟩) n n] 83) (Obj.cells #[.nilFunc] 84)
  obtain ⟨W, hW⟩ : ∃ W, W = ((((w.alloc (Obj.cells #[.slice aS n cS, .slice aE s.enums.length cE, .int .i64 (root : Int)] 52)).alloc (rowN n fun _ => 0)).alloc (Obj.cells #[.slice (some ⟨w.heap.size + 1, 0, none⟩) n n] 83)).alloc (Obj.cells #[.nilFunc] 84)) := ⟨_, rfl⟩
  rw [← hW] at b1 b2 b3 b4 bb ⊢
  obtain ⟨S, hS⟩ : ∃ S, S = w.heap.size := ⟨_, rfl⟩
  have HB := Lib.hid bb
  rw [← hS] at b1 b2 b3 b4 ⊢
  have v0 : W.cell? ⟨S + 1 + 1 + 1, 0, none⟩ = some .nilFunc := by rw [blk_cell b4]; rfl
  have v1 := blk_frozen b4 0
  have lV := blk_lt b4
  have HS := Lib.hid hS
  clear hW m1 bb hS
  go_upto_region 4 with (fail)
  obtain ⟨W2, hW2⟩ : ∃ W2, W2 = W.setCell ⟨S + 1 + 1 + 1, 0, none⟩ (.func (.func 18) #[] #[.pointer (some ⟨S + 1 + 1, 0, none⟩), .pointer (some ⟨S, 0, none⟩), .pointer (some ⟨S + 1 + 1 + 1, 0, none⟩)]) := ⟨_, rfl⟩
  rw [← hW2]
  have hV : VisAt w aS cS (.slice aE s.enums.length cE) (root : Int) n (S + 1 + 1) S (S + 1 + 1 + 1) (S + 1) (fun _ => 0) W2 := by
    have hS := HS.out
    rw [hW2]
    refine ⟨HB.out.setCell (by show w.heap.size ≤ S + 1 + 1 + 1; omega) _, blk_set_ne b3 _ (by show S + 1 + 1 ≠ S + 1 + 1 + 1; omega) _, blk_set_ne b1 _ (by show S ≠ S + 1 + 1 + 1; omega) _, ?_, blk_set_ne b2 _ (by show S + 1 ≠ S + 1 + 1 + 1; omega) _, by omega, by omega, by omega, by omega, by omega, by omega, by omega⟩
    rw [blk_set b4]; rfl
  have k0 : W2.cell? ⟨S + 1 + 1 + 1, 0, none⟩ = some (.func (.func 18) #[] #[.pointer (some ⟨S + 1 + 1, 0, none⟩), .pointer (some ⟨S, 0, none⟩), .pointer (some ⟨S + 1 + 1 + 1, 0, none⟩)]) := by rw [blk_cell hV.v]; rfl
  have k1 : W2.cell? ⟨S, 2, none⟩ = some (.int .i64 (root : Int)) := by rw [blk_cell hV.s]; rfl
  have l1 := blk_lt hV.v
  have l2 := blk_lt hV.s
  have HVV := Lib.hid hV
  clear b1 b2 b3 b4 v0 v1 lV hW2 hV
  go_wp2_with fail
  refine (HV.out _ _ _ _ W2 hrl hwh HVV.out).mono ?_
  rintro e w2 hP
  have hval := hP.val
  subst hval
  have HP := Lib.hid hP.below
  clear hP
  go_wp2_with fail
  go_ret
  exact ⟨rfl, HP.out⟩

end Go.Proofs.Ytgoaiokpnifhfaa

/-
  The document's Loops: rounds over the structs.
-/
namespace Go.Proofs.Ytgoaiokpnifhfaa
open Go.RowKit
set_option linter.unusedVariables false
set_option linter.unusedSimpArgs false

/-- a row of bools -/
def rowQ (N : Nat) (f : Nat → Bool) : Obj := .cells ((List.range N).map fun x => Value.bool (f x)).toArray 4 (0, 0)
theorem rowQ_cell {w : World} {b N : Nat} {f : Nat → Bool} (h : w.heap[b]? = some (rowQ N f)) (x : Nat) (hx : x < N) : w.cell? ⟨b, x, none⟩ = some (.bool (f x)) := by
  rw [blk_cell h]; simp [hx]
theorem rowQ_set (w : World) (b N : Nat) (f f' : Nat → Bool) (h : w.heap[b]? = some (rowQ N f)) (k : Nat) (hk : k < N) (hf : ∀ x, f' x = (f x || decide (x = k))) : (w.setCell ⟨b, k, none⟩ (.bool true)).heap[b]? = some (rowQ N f') := by
  rw [blk_set h]
  unfold rowQ
  congr 2
  apply Array.ext
  · simp
  · intro i h1 h2
    have hi : i < N := by simpa using h1
    rw [Array.getElem_setIfInBounds (by simp [hi])]
    by_cases e : k = i
    · subst e; simp [hf]
    · rw [if_neg e]
      have e2 : ¬ i = k := fun h => e h.symm
      simp [hf, e2]
theorem rowQ_made (n : Nat) : rowQ n (fun _ => false) = .cells (madeCells #[Value.bool false] n) 4 (0, 0) := by
  unfold rowQ
  congr 1
  apply Array.ext
  · simp [size_madeCells]
  · intro i h1 h2
    simp [madeCells, Nat.mod_one]
theorem info_bool2 : (Try.prog.info? 4).map (fun i => (i.zero, i.size, i.bytes)) = some (some (.bool false), 1, 1) := by kernel_rfl

/-- the schema, and the marks -/
structure SeenI (w0 : World) (aS : Option Addr) (cS : Nat) (vE : Value) (rt : Int) (n S G : Nat) (f : Nat → Bool) (w : World) : Prop where
  below : Below w0.heap.size w0 w
  s : w.heap[S]? = some (.cells #[.slice aS n cS, vE, .int .i64 rt] 52 (0, 0))
  g : w.heap[G]? = some (rowQ n f)
  ls : w0.heap.size ≤ S
  lg : w0.heap.size ≤ G
  sg : S ≠ G
theorem SeenI.run {w0 : World} {aS : Option Addr} {cS : Nat} {vE : Value} {rt : Int} {n S G : Nat} {f : Nat → Bool} {w w' : World} (h : SeenI w0 aS cS vE rt n S G f w) (hb : Below w.heap.size w w') : SeenI w0 aS cS vE rt n S G f w' :=
  { h with below := h.below.trans (hb.mono h.below.size), s := blk_below h.s hb (blk_lt h.s), g := blk_below h.g hb (blk_lt h.g) }
theorem SeenI.put {w0 : World} {aS : Option Addr} {cS : Nat} {vE : Value} {rt : Int} {n S G : Nat} {f f' : Nat → Bool} {w : World} (h : SeenI w0 aS cS vE rt n S G f w) (k : Nat) (hk : k < n) (hf : ∀ x, f' x = (f x || decide (x = k))) : SeenI w0 aS cS vE rt n S G f' (w.setCell ⟨G, k, none⟩ (.bool true)) :=
  { h with below := h.below.setCell h.lg _, s := blk_set_ne h.s _ h.sg _, g := rowQ_set w G n f f' h.g k hk hf }
theorem mark_nil (f : Nat → Bool) : mark [] f = f := by funext x; simp [mark]
theorem mark_snoc (l : List Nat) (j : Nat) (f : Nat → Bool) (x : Nat) : mark (l ++ [j]) f x = (mark l f x || decide (x = j)) := by
  unfold mark
  rw [Bool.or_assoc]
  congr 1
  rw [Bool.eq_iff_iff]
  simp [List.contains_iff_mem]
theorem mark_up {l : List Nat} {f : Nat → Bool} {x : Nat} (h : f x = true) : mark l f x = true := by simp [mark, h]

set_option maxHeartbeats 4000000 in
set_option maxRecDepth 100000 in
theorem returns_calls (s : FSchema) (hok : SchOk s) (aS : Option Addr) (cS : Nat) (aE : Option Addr) (vE : Value) (rt : Int) (i0 : Nat) (hi0 : i0 < s.structs.length) (w : World) (h : SchRows w aS aE s) :
    Calls Try.prog 19 #[.agg #[.slice aS s.structs.length cS, vE, .int .i64 rt], .int .i64 (i0 : Int)] w fun e w' => e = .returned (.bool (rounds (outsS s) s.structs.length (fun y => y == i0) (fun _ => false) (s.structs.length + 1) i0)) ∧ Below w.heap.size w w' := by
  obtain ⟨n, hn⟩ : ∃ n, n = s.structs.length := ⟨_, rfl⟩
  rw [← hn] at hi0 ⊢
  have hn16 : n ≤ 16 := by rw [hn]; exact hok.n16
  have HN := Lib.hid hn
  have HOK := Lib.hid hok
  have HR := Lib.hid h
  have m1 : ∀ w : World, (Instr.makeSlice 85 (.int .i64 (n : Int)) (.int .i64 (n : Int))).run Try.prog w = .ok (.slice (some ⟨w.heap.size, 0, none⟩) n n) (w.alloc (.cells (madeCells #[.bool false] n) 4)) := fun w => run_make_row' (P := Try.prog) 85 4 (.bool false) 1 Try.underlying85 info_bool2 rfl .i64 .i64 n (by omega) (by omega) w
  rw [← rowQ_made] at m1
  have hI0 : SeenI w aS cS vE rt n w.heap.size (w.heap.size + 1) (fun _ => false) ((w.alloc (Obj.cells #[.slice aS n cS, vE, .int .i64 rt] 52)).alloc (rowQ n fun _ => false)) := by
    have := blk_new (w.alloc (Obj.cells #[.slice aS n cS, vE, .int .i64 rt] 52)) (rowQ n fun _ => false)
    rw [World.size_alloc] at this
    exact ⟨(below1 _ _).alloc (by simp) _, blk_alloc (blk_new _ _) _, this, by omega, by omega, by omega⟩
  clear hn hok h
  go_enter Try.func19, Try.ntmps19
  go_upto_region 2 with (fail)
  generalize (w.alloc (Obj.cells #[.slice aS n cS, vE, .int .i64 rt] 52)).alloc (rowQ n fun _ => false) = W at *
  obtain ⟨G, hG⟩ : ∃ G, G = w.heap.size + 1 := ⟨_, rfl⟩
  rw [← hG] at hI0 ⊢
  obtain ⟨S, hS⟩ : ∃ S, S = w.heap.size := ⟨_, rfl⟩
  rw [← hS] at hI0 ⊢
  have HI0 := Lib.hid hI0
  clear hG hS hI0 m1
  go_wp2_with fail
  go_loopw [6] (fun v6 wr => ∃ m : Nat, v6 = .int .i64 (m : Int) ∧ m ≤ n + 1 ∧ Hid (SeenI w aS cS vE rt n S G (rounds (outsS s) n (fun y => y == i0) (fun _ => false) m) wr)) (fun v6 _ => n + 1 - (intOf v6).toNat)
  case atStart => exact ⟨0, rfl, by omega, HI0.out⟩
  case round =>
    obtain ⟨m, rfl, hm, hM⟩ := hrel
    rename World => wr
    have s0 : wr.cell? ⟨S, 0, none⟩ = some (.slice aS n cS) := by rw [blk_cell hM.out.s]; rfl
    have lS := blk_lt hM.out.s
    by_cases hmn : m ≤ n
    · have hmI : (m : Int) ≤ (n : Int) := by omega
      have HM := Lib.hid hM.out
      clear hM
      obtain ⟨fm, hfm⟩ : ∃ fm, fm = rounds (outsS s) n (fun y => y == i0) (fun _ => false) m := ⟨_, rfl⟩
      rw [← hfm] at HM
      have HFM := Lib.hid hfm
      clear hfm
      go_wp2_with fail
      clear s0 lS
      go_loopw [7] (fun v7 wi => ∃ i : Nat, v7 = .int .i64 (i : Int) ∧ i ≤ n ∧ Hid (SeenI w aS cS vE rt n S G (roundTo (outsS s) (fun y => y == i0) fm i) wi)) (fun v7 _ => n - (intOf v7).toNat)
      case atStart => exact ⟨0, rfl, by omega, HM.out⟩
      case round =>
        obtain ⟨i, rfl, hi, hI⟩ := hrel
        rename World => wi
        have s0 : wi.cell? ⟨S, 0, none⟩ = some (.slice aS n cS) := by rw [blk_cell hI.out.s]; rfl
        have lS := blk_lt hI.out.s
        by_cases hin : i < n
        · have hiI : (i : Int) < (n : Int) := by omega
          have HIN := Lib.hid hin
          obtain ⟨b, o, b', c', rfl, hb, _, p1', hb', hfs⟩ := HR.out.st i (by rw [← HN.out]; exact hin)
          have hro := HOK.out.recs i (by rw [← HN.out]; exact hin)
          have hsp : ∀ f, roundTo (outsS s) (fun y => y == i0) f (i + 1) = if ((fun y => y == i0) i || roundTo (outsS s) (fun y => y == i0) f i i) = true then mark (outsTo (rget s.structs i).fields (rget s.structs i).fields.length) (roundTo (outsS s) (fun y => y == i0) f i) else roundTo (outsS s) (fun y => y == i0) f i := fun f => rfl
          have hsp := hsp fm
          have hfl := hro.most
          have hfd := hro.flds
          generalize (rget s.structs i).fields = fs at *
          obtain ⟨fi, hfi⟩ : ∃ fi, fi = roundTo (outsS s) (fun y => y == i0) fm i := ⟨_, rfl⟩
          rw [← hfi] at hI hsp
          have HI := Lib.hid hI.out
          have HFS := Lib.hid hfs
          have HFD := Lib.hid hfd
          have P1 := Lib.hid p1'
          clear hfi hro hfs hfd p1' hI
          go_wp2_with fail
          clear s0 lS
          by_cases hii : i = i0
          · have heq : ((i : Int) == (i0 : Int)) = true := by rw [hii]; simp
            have hstep : roundTo (outsS s) (fun y => y == i0) fm (i + 1) = mark (outsTo fs fs.length) fi := by rw [hsp, if_pos (by simp [hii])]
            have HSTEP := Lib.hid hstep
            clear hstep hsp hii
            go_loopw [8] (fun v8 wk => ∃ k : Nat, v8 = .int .i64 (k : Int) ∧ k ≤ fs.length ∧ Hid (SeenI w (some ⟨b, o, none⟩) cS vE rt n S G (mark (outsTo fs k) fi) wk)) (fun v8 _ => fs.length - (intOf v8).toNat)
            case atStart => exact ⟨0, rfl, by omega, by rw [show outsTo fs 0 = [] from rfl, mark_nil]; exact HI.out⟩
            case round =>
              obtain ⟨k, rfl, hk, hM⟩ := hrel
              rename World => wk
              have s0 : wk.cell? ⟨S, 0, none⟩ = some (.slice (some ⟨b, o, none⟩) n cS) := by rw [blk_cell hM.out.s]; rfl
              have lS := blk_lt hM.out.s
              have lG := blk_lt hM.out.g
              have p1 := (hM.out.below.cell (p := ⟨b, o + i * 2 + 1, none⟩) hb).trans P1.out
              have lb : b < wk.heap.size := Nat.lt_of_lt_of_le hb hM.out.below.size
              by_cases hkn : k < fs.length
              · have hkI : (k : Int) < (fs.length : Int) := by omega
                have HKN := Lib.hid hkn
                obtain ⟨q0, q1, q2, q3, q4⟩ := (FieldsAt.below HFS.out hM.out.below hb') k hkn
                rw [Nat.zero_add] at q0 q1 q2 q3 q4
                have hout : outsTo fs (k + 1) = outsTo fs k ++ (if (fget fs k).kind = 13 then [(fget fs k).ref.toNat] else []) := rfl
                have hst := (HFD.out _ (fget_mem fs k hkn)).st
                generalize fget fs k = f at *
                obtain ⟨fn, kd, rf, ls, df⟩ := f
                simp only at q0 q1 q2 q3 q4 hst hout
                have lb' : b' < wk.heap.size := Nat.lt_of_lt_of_le hb' hM.out.below.size
                skip
                by_cases hkd : kd = 13
                · obtain ⟨r0, r1⟩ := hst hkd
                  rw [if_pos hkd] at hout
                  have hdk : decide (kd = 13) = true := decide_eq_true hkd
                  obtain ⟨j, rfl⟩ := Int.eq_ofNat_of_zero_le r0
                  rw [Int.toNat_natCast] at hout
                  have hjn : j < n := by rw [HN.out]; omega
                  have hjI : (j : Int) < (n : Int) := by omega
                  have hM2 := hM.out.run (below1 wk (Obj.cells #[.int .u8 kd, .int .i64 (j : Int), .int .i64 ls] 67))
                  have hg2 := rowQ_cell hM2.g j hjn
                  have hgf2 : (wk.alloc (Obj.cells #[.int .u8 kd, .int .i64 (j : Int), .int .i64 ls] 67)).frozen? ⟨G, j, none⟩ = false := blk_frozen hM2.g j
                  have hg1 := rowQ_cell hM.out.g j hjn
                  have hgf1 : wk.frozen? ⟨G, j, none⟩ = false := blk_frozen hM.out.g j
                  have hM3 := (hM.out.put (f' := mark (outsTo fs (k + 1)) fi) j hjn (fun x => by rw [hout]; exact mark_snoc _ _ _ _)).run (below1 _ (Obj.cells #[.int .u8 kd, .int .i64 (j : Int), .int .i64 ls] 67))
                  subst hkd
                  have HM3 := Lib.hid hM3
                  clear hst hout r0 r1 hM2 hM3
                  generalize mark (outsTo fs k) fi j = bj at *
                  go_wp2_with fail
                  go_roundw
                  case rel => exact ⟨k + 1, by go_num, HKN.out, HM3.out⟩
                  case measure => have := HKN.out; simp [intOf]; omega
                · rw [if_neg hkd, List.append_nil] at hout
                  have hdk : decide (kd = 13) = false := decide_eq_false hkd
                  have HM3 := Lib.hid (by have := hM.out.run (below1 wk (Obj.cells #[.int .u8 kd, .int .i64 rf, .int .i64 ls] 67)); rw [← hout] at this; exact this)
                  clear hst hout
                  go_wp2_with fail
                  go_roundw
                  case rel => exact ⟨k + 1, by go_num, HKN.out, HM3.out⟩
                  case measure => have := HKN.out; simp [intOf]; omega
              · obtain rfl : k = fs.length := by omega
                have HM3 := Lib.hid hM.out
                clear hM
                go_wp2_with fail
                go_roundw
                case rel => exact ⟨i + 1, by go_num, HIN.out, by rw [HSTEP.out]; exact HM3.out⟩
                case measure => have := HIN.out; simp [intOf]; omega
          · have heq : ((i : Int) == (i0 : Int)) = false := beq_false_of_ne (by omega)
            cases hfii : fi i with
            | true =>
              have hstep : roundTo (outsS s) (fun y => y == i0) fm (i + 1) = mark (outsTo fs fs.length) fi := by rw [hsp, if_pos (by simp [hfii])]
              have HSTEP := Lib.hid hstep
              have HFI := Lib.hid hfii
              clear hstep hsp hii hfii
              go_loopw [8] (fun v8 wk => ∃ k : Nat, v8 = .int .i64 (k : Int) ∧ k ≤ fs.length ∧ Hid (SeenI w (some ⟨b, o, none⟩) cS vE rt n S G (mark (outsTo fs k) fi) wk)) (fun v8 _ => fs.length - (intOf v8).toNat)
              case atStart => exact ⟨0, rfl, by omega, by rw [show outsTo fs 0 = [] from rfl, mark_nil]; exact HI.out⟩
              case round =>
                obtain ⟨k, rfl, hk, hM⟩ := hrel
                rename World => wk
                have s0 : wk.cell? ⟨S, 0, none⟩ = some (.slice (some ⟨b, o, none⟩) n cS) := by rw [blk_cell hM.out.s]; rfl
                have lS := blk_lt hM.out.s
                have lG := blk_lt hM.out.g
                have p1 := (hM.out.below.cell (p := ⟨b, o + i * 2 + 1, none⟩) hb).trans P1.out
                have lb : b < wk.heap.size := Nat.lt_of_lt_of_le hb hM.out.below.size
                by_cases hkn : k < fs.length
                · have hkI : (k : Int) < (fs.length : Int) := by omega
                  have HKN := Lib.hid hkn
                  obtain ⟨q0, q1, q2, q3, q4⟩ := (FieldsAt.below HFS.out hM.out.below hb') k hkn
                  rw [Nat.zero_add] at q0 q1 q2 q3 q4
                  have hout : outsTo fs (k + 1) = outsTo fs k ++ (if (fget fs k).kind = 13 then [(fget fs k).ref.toNat] else []) := rfl
                  have hst := (HFD.out _ (fget_mem fs k hkn)).st
                  generalize fget fs k = f at *
                  obtain ⟨fn, kd, rf, ls, df⟩ := f
                  simp only at q0 q1 q2 q3 q4 hst hout
                  have lb' : b' < wk.heap.size := Nat.lt_of_lt_of_le hb' hM.out.below.size
                  have hgi := rowQ_cell hM.out.g i hin; rw [mark_up HFI.out] at hgi
                  by_cases hkd : kd = 13
                  · obtain ⟨r0, r1⟩ := hst hkd
                    rw [if_pos hkd] at hout
                    have hdk : decide (kd = 13) = true := decide_eq_true hkd
                    obtain ⟨j, rfl⟩ := Int.eq_ofNat_of_zero_le r0
                    rw [Int.toNat_natCast] at hout
                    have hjn : j < n := by rw [HN.out]; omega
                    have hjI : (j : Int) < (n : Int) := by omega
                    have hM2 := hM.out.run (below1 wk (Obj.cells #[.int .u8 kd, .int .i64 (j : Int), .int .i64 ls] 67))
                    have hg2 := rowQ_cell hM2.g j hjn
                    have hgf2 : (wk.alloc (Obj.cells #[.int .u8 kd, .int .i64 (j : Int), .int .i64 ls] 67)).frozen? ⟨G, j, none⟩ = false := blk_frozen hM2.g j
                    have hg1 := rowQ_cell hM.out.g j hjn
                    have hgf1 : wk.frozen? ⟨G, j, none⟩ = false := blk_frozen hM.out.g j
                    have hM3 := (hM.out.put (f' := mark (outsTo fs (k + 1)) fi) j hjn (fun x => by rw [hout]; exact mark_snoc _ _ _ _)).run (below1 _ (Obj.cells #[.int .u8 kd, .int .i64 (j : Int), .int .i64 ls] 67))
                    subst hkd
                    have HM3 := Lib.hid hM3
                    clear hst hout r0 r1 hM2 hM3
                    generalize mark (outsTo fs k) fi j = bj at *
                    go_wp2_with fail
                    go_roundw
                    case rel => exact ⟨k + 1, by go_num, HKN.out, HM3.out⟩
                    case measure => have := HKN.out; simp [intOf]; omega
                  · rw [if_neg hkd, List.append_nil] at hout
                    have hdk : decide (kd = 13) = false := decide_eq_false hkd
                    have HM3 := Lib.hid (by have := hM.out.run (below1 wk (Obj.cells #[.int .u8 kd, .int .i64 rf, .int .i64 ls] 67)); rw [← hout] at this; exact this)
                    clear hst hout
                    go_wp2_with fail
                    go_roundw
                    case rel => exact ⟨k + 1, by go_num, HKN.out, HM3.out⟩
                    case measure => have := HKN.out; simp [intOf]; omega
                · obtain rfl : k = fs.length := by omega
                  have HM3 := Lib.hid hM.out
                  clear hM
                  go_wp2_with fail
                  go_roundw
                  case rel => exact ⟨i + 1, by go_num, HIN.out, by rw [HSTEP.out]; exact HM3.out⟩
                  case measure => have := HIN.out; simp [intOf]; omega
            | false =>
              have hstep : roundTo (outsS s) (fun y => y == i0) fm (i + 1) = fi := by rw [hsp, if_neg (by simp [hii, hfii])]
              have HSTEP := Lib.hid hstep
              clear hstep hsp
              go_loopw [8] (fun v8 wk => v8 = .int .i64 0 ∧ Hid (SeenI w (some ⟨b, o, none⟩) cS vE rt n S G fi wk)) (fun _ _ => 0)
              case atStart => exact ⟨rfl, HI.out⟩
              case round =>
                obtain ⟨rfl, hM⟩ := hrel
                rename World => wk
                have s0 : wk.cell? ⟨S, 0, none⟩ = some (.slice (some ⟨b, o, none⟩) n cS) := by rw [blk_cell hM.out.s]; rfl
                have lS := blk_lt hM.out.s
                have lG := blk_lt hM.out.g
                have p1 := (hM.out.below.cell (p := ⟨b, o + i * 2 + 1, none⟩) hb).trans P1.out
                have lb : b < wk.heap.size := Nat.lt_of_lt_of_le hb hM.out.below.size
                have HM3 := Lib.hid hM.out
                have hgi := rowQ_cell hM.out.g i hin
                rw [hfii] at hgi
                clear hM
                by_cases hk0 : (0 : Int) < (fs.length : Int)
                · go_wp2_with fail
                  go_roundw
                  case rel => exact ⟨i + 1, by go_num, HIN.out, by rw [HSTEP.out]; exact HM3.out⟩
                  case measure => have := HIN.out; simp [intOf]; omega
                · go_wp2_with fail
                  go_roundw
                  case rel => exact ⟨i + 1, by go_num, HIN.out, by rw [HSTEP.out]; exact HM3.out⟩
                  case measure => have := HIN.out; simp [intOf]; omega
        · obtain rfl : i = n := by omega
          have HI := Lib.hid hI.out
          clear hI
          go_wp2_with fail
          go_roundw
          case rel => exact ⟨m + 1, by go_num, by omega, by rw [HFM.out] at HI; exact HI.out⟩
          case measure => simp [intOf]; omega
    · obtain rfl : m = n + 1 := by omega
      have hmI : decide (((n + 1 : Nat) : Int) ≤ (n : Int)) = false := decide_eq_false (by omega)
      have lG := blk_lt hM.out.g
      have hg := rowQ_cell hM.out.g i0 hi0
      have hiI : (i0 : Int) < (n : Int) := by omega
      have HB := Lib.hid hM.out.below
      clear hM
      obtain ⟨x, hx⟩ : ∃ x, x = rounds (outsS s) n (fun y => y == i0) (fun _ => false) (n + 1) i0 := ⟨_, rfl⟩
      rw [← hx] at hg
      have HX := Lib.hid hx
      clear hx
      go_wp2_with fail
      go_ret
      exact ⟨by rw [← HX.out]; rfl, HB.out⟩

set_option maxHeartbeats 4000000 in
set_option maxRecDepth 100000 in
theorem refLoops_calls (s : FSchema) (hok : SchOk s) (aS : Option Addr) (cS : Nat) (aE : Option Addr) (cE : Nat) (w : World) (h : SchRows w aS aE s) :
    Calls Try.prog 11 #[.agg #[.slice aS s.structs.length cS, .slice aE s.enums.length cE, .int .i64 s.root]] w fun e w' => e = .returned (.bool (loopsR (outsS s) s.structs.length s.root.toNat)) ∧ Below w.heap.size w w' := by
  have hr0 := hok.r0
  have hr1 := hok.r1
  have hn16 := hok.n16
  obtain ⟨root, hroot⟩ : ∃ root : Nat, s.root = (root : Int) := ⟨s.root.toNat, by omega⟩
  rw [hroot] at hr1 ⊢
  have hrl : root < s.structs.length := by omega
  rw [Int.toNat_natCast]
  have HRET := Lib.hid (fun (i0 : Nat) (hi0 : i0 < s.structs.length) (W : World) (hB : Below w.heap.size w W) => returns_calls s hok aS cS aE (.slice aE s.enums.length cE) (root : Int) i0 hi0 W (h.below hB))
  have HOK := Lib.hid hok
  have HR := Lib.hid h
  clear hok hroot hr0 h
  obtain ⟨vE, hvE⟩ : ∃ vE : Value, vE = .slice aE s.enums.length cE := ⟨_, rfl⟩
  obtain ⟨n, hn⟩ : ∃ n, n = s.structs.length := ⟨_, rfl⟩
  rw [← hn] at hr1 hn16 hrl HRET ⊢
  rw [← hvE] at HRET ⊢
  have HN := Lib.hid hn
  have HVE := Lib.hid hvE
  clear hn hvE
  have m1 : ∀ w : World, (Instr.makeSlice 85 (.int .i64 (n : Int)) (.int .i64 (n : Int))).run Try.prog w = .ok (.slice (some ⟨w.heap.size, 0, none⟩) n n) (w.alloc (.cells (madeCells #[.bool false] n) 4)) := fun w => run_make_row' (P := Try.prog) 85 4 (.bool false) 1 Try.underlying85 info_bool2 rfl .i64 .i64 n (by omega) (by omega) w
  rw [← rowQ_made] at m1
  have hI0 : SeenI w aS cS vE (root : Int) n w.heap.size (w.heap.size + 1) (fun _ => false) ((w.alloc (Obj.cells #[.slice aS n cS, vE, .int .i64 (root : Int)] 52)).alloc (rowQ n fun _ => false)) := by
    have := blk_new (w.alloc (Obj.cells #[.slice aS n cS, vE, .int .i64 (root : Int)] 52)) (rowQ n fun _ => false)
    rw [World.size_alloc] at this
    exact ⟨(below1 _ _).alloc (by simp) _, blk_alloc (blk_new _ _) _, this, by omega, by omega, by omega⟩
  obtain ⟨rt, hrt⟩ : ∃ rt : Int, rt = (root : Int) := ⟨_, rfl⟩
  go_enter Try.func11, Try.ntmps11
  go_upto_region 2 with (fail)
  generalize (w.alloc (Obj.cells #[.slice aS n cS, vE, .int .i64 (root : Int)] 52)).alloc (rowQ n fun _ => false) = W at *
  obtain ⟨G, hG⟩ : ∃ G, G = w.heap.size + 1 := ⟨_, rfl⟩
  rw [← hG] at hI0 ⊢
  obtain ⟨S, hS⟩ : ∃ S, S = w.heap.size := ⟨_, rfl⟩
  rw [← hS] at hI0 ⊢
  have s2 : W.cell? ⟨S, 2, none⟩ = some (.int .i64 (root : Int)) := by rw [blk_cell hI0.s]; rfl
  have lS := blk_lt hI0.s
  have lG := blk_lt hI0.g
  have g0 := rowQ_cell hI0.g root hrl
  have gf0 : W.frozen? ⟨G, root, none⟩ = false := blk_frozen hI0.g root
  have hI1 := hI0.put (f' := fun x => x == root) root hrl (fun x => by rw [Bool.eq_iff_iff]; simp)
  have HI0 := Lib.hid hI1
  clear hG hS hI0 m1 hI1 hrt
  go_wp2_with fail
  clear s2 lS lG g0 gf0
  go_loopw [4] (fun v4 wr => ∃ m : Nat, v4 = .int .i64 (m : Int) ∧ m ≤ n ∧ Hid (SeenI w aS cS vE (root : Int) n S G (rounds (outsS s) n (fun _ => false) (fun x => x == root) m) wr)) (fun v4 _ => n - (intOf v4).toNat)
  case atStart => exact ⟨0, rfl, by omega, HI0.out⟩
  case round =>
    obtain ⟨m, rfl, hm, hM⟩ := hrel
    rename World => wr
    have s0 : wr.cell? ⟨S, 0, none⟩ = some (.slice aS n cS) := by rw [blk_cell hM.out.s]; rfl
    have lS := blk_lt hM.out.s
    by_cases hmn : m < n
    · have hmI : (m : Int) < (n : Int) := by omega
      have HM := Lib.hid hM.out
      clear hM
      obtain ⟨fm, hfm⟩ : ∃ fm, fm = rounds (outsS s) n (fun _ => false) (fun x => x == root) m := ⟨_, rfl⟩
      rw [← hfm] at HM
      have HFM := Lib.hid hfm
      obtain ⟨rt, hrt⟩ : ∃ rt : Int, rt = (root : Int) := ⟨_, rfl⟩
      rw [← hrt] at HM ⊢
      have HRT := Lib.hid hrt
      clear hfm hrt
      go_wp2_with fail
      clear s0 lS
      go_loopw [5] (fun v5 wi => ∃ i : Nat, v5 = .int .i64 (i : Int) ∧ i ≤ n ∧ Hid (SeenI w aS cS vE rt n S G (roundTo (outsS s) (fun _ => false) fm i) wi)) (fun v5 _ => n - (intOf v5).toNat)
      case atStart => exact ⟨0, rfl, by omega, HM.out⟩
      case round =>
        obtain ⟨i, rfl, hi, hI⟩ := hrel
        rename World => wi
        have s0 : wi.cell? ⟨S, 0, none⟩ = some (.slice aS n cS) := by rw [blk_cell hI.out.s]; rfl
        have lS := blk_lt hI.out.s
        by_cases hin : i < n
        · have hiI : (i : Int) < (n : Int) := by omega
          have HIN := Lib.hid hin
          obtain ⟨b, o, b', c', rfl, hb, _, p1', hb', hfs⟩ := HR.out.st i (by rw [← HN.out]; exact hin)
          have hro := HOK.out.recs i (by rw [← HN.out]; exact hin)
          have hsp : ∀ f, roundTo (outsS s) (fun _ => false) f (i + 1) = if ((fun _ => false) i || roundTo (outsS s) (fun _ => false) f i i) = true then mark (outsTo (rget s.structs i).fields (rget s.structs i).fields.length) (roundTo (outsS s) (fun _ => false) f i) else roundTo (outsS s) (fun _ => false) f i := fun f => rfl
          have hsp := hsp fm
          have hfl := hro.most
          have hfd := hro.flds
          generalize (rget s.structs i).fields = fs at *
          obtain ⟨fi, hfi⟩ : ∃ fi, fi = roundTo (outsS s) (fun _ => false) fm i := ⟨_, rfl⟩
          rw [← hfi] at hI hsp
          have HI := Lib.hid hI.out
          have HFS := Lib.hid hfs
          have HFD := Lib.hid hfd
          have P1 := Lib.hid p1'
          clear hfi hro hfs hfd p1' hI
          go_wp2_with fail
          clear s0 lS
          cases hfii : fi i with
          | true =>
            have hstep : roundTo (outsS s) (fun _ => false) fm (i + 1) = mark (outsTo fs fs.length) fi := by rw [hsp, if_pos (by simp [hfii])]
            have HSTEP := Lib.hid hstep
            have HFI := Lib.hid hfii
            clear hstep hsp hfii
            go_loopw [6] (fun v6 wk => ∃ k : Nat, v6 = .int .i64 (k : Int) ∧ k ≤ fs.length ∧ Hid (SeenI w (some ⟨b, o, none⟩) cS vE rt n S G (mark (outsTo fs k) fi) wk)) (fun v6 _ => fs.length - (intOf v6).toNat)
            case atStart => exact ⟨0, rfl, by omega, by rw [show outsTo fs 0 = [] from rfl, mark_nil]; exact HI.out⟩
            case round =>
              obtain ⟨k, rfl, hk, hM⟩ := hrel
              rename World => wk
              have s0 : wk.cell? ⟨S, 0, none⟩ = some (.slice (some ⟨b, o, none⟩) n cS) := by rw [blk_cell hM.out.s]; rfl
              have lS := blk_lt hM.out.s
              have lG := blk_lt hM.out.g
              have p1 := (hM.out.below.cell (p := ⟨b, o + i * 2 + 1, none⟩) hb).trans P1.out
              have lb : b < wk.heap.size := Nat.lt_of_lt_of_le hb hM.out.below.size
              by_cases hkn : k < fs.length
              · have hkI : (k : Int) < (fs.length : Int) := by omega
                have HKN := Lib.hid hkn
                obtain ⟨q0, q1, q2, q3, q4⟩ := (FieldsAt.below HFS.out hM.out.below hb') k hkn
                rw [Nat.zero_add] at q0 q1 q2 q3 q4
                have hout : outsTo fs (k + 1) = outsTo fs k ++ (if (fget fs k).kind = 13 then [(fget fs k).ref.toNat] else []) := rfl
                have hst := (HFD.out _ (fget_mem fs k hkn)).st
                generalize fget fs k = f at *
                obtain ⟨fn, kd, rf, ls, df⟩ := f
                simp only at q0 q1 q2 q3 q4 hst hout
                have lb' : b' < wk.heap.size := Nat.lt_of_lt_of_le hb' hM.out.below.size
                have hgi := rowQ_cell hM.out.g i hin; rw [mark_up HFI.out] at hgi
                by_cases hkd : kd = 13
                · obtain ⟨r0, r1⟩ := hst hkd
                  rw [if_pos hkd] at hout
                  have hdk : decide (kd = 13) = true := decide_eq_true hkd
                  obtain ⟨j, rfl⟩ := Int.eq_ofNat_of_zero_le r0
                  rw [Int.toNat_natCast] at hout
                  have hjn : j < n := by rw [HN.out]; omega
                  have hjI : (j : Int) < (n : Int) := by omega
                  have hM2 := hM.out.run (below1 wk (Obj.cells #[.int .u8 kd, .int .i64 (j : Int), .int .i64 ls] 67))
                  have hg2 := rowQ_cell hM2.g j hjn
                  have hgf2 : (wk.alloc (Obj.cells #[.int .u8 kd, .int .i64 (j : Int), .int .i64 ls] 67)).frozen? ⟨G, j, none⟩ = false := blk_frozen hM2.g j
                  have hg1 := rowQ_cell hM.out.g j hjn
                  have hgf1 : wk.frozen? ⟨G, j, none⟩ = false := blk_frozen hM.out.g j
                  have hM3 := (hM.out.put (f' := mark (outsTo fs (k + 1)) fi) j hjn (fun x => by rw [hout]; exact mark_snoc _ _ _ _)).run (below1 _ (Obj.cells #[.int .u8 kd, .int .i64 (j : Int), .int .i64 ls] 67))
                  subst hkd
                  have HM3 := Lib.hid hM3
                  clear hst hout r0 r1 hM2 hM3
                  generalize mark (outsTo fs k) fi j = bj at *
                  go_wp2_with fail
                  go_roundw
                  case rel => exact ⟨k + 1, by go_num, HKN.out, HM3.out⟩
                  case measure => have := HKN.out; simp [intOf]; omega
                · rw [if_neg hkd, List.append_nil] at hout
                  have hdk : decide (kd = 13) = false := decide_eq_false hkd
                  have HM3 := Lib.hid (by have := hM.out.run (below1 wk (Obj.cells #[.int .u8 kd, .int .i64 rf, .int .i64 ls] 67)); rw [← hout] at this; exact this)
                  clear hst hout
                  go_wp2_with fail
                  go_roundw
                  case rel => exact ⟨k + 1, by go_num, HKN.out, HM3.out⟩
                  case measure => have := HKN.out; simp [intOf]; omega
              · obtain rfl : k = fs.length := by omega
                have HM3 := Lib.hid hM.out
                clear hM
                go_wp2_with fail
                go_roundw
                case rel => exact ⟨i + 1, by go_num, HIN.out, by rw [HSTEP.out]; exact HM3.out⟩
                case measure => have := HIN.out; simp [intOf]; omega
          | false =>
            have hstep : roundTo (outsS s) (fun _ => false) fm (i + 1) = fi := by rw [hsp, if_neg (by simp [hfii])]
            have HSTEP := Lib.hid hstep
            clear hstep hsp
            go_loopw [6] (fun v6 wk => v6 = .int .i64 0 ∧ Hid (SeenI w (some ⟨b, o, none⟩) cS vE rt n S G fi wk)) (fun _ _ => 0)
            case atStart => exact ⟨rfl, HI.out⟩
            case round =>
              obtain ⟨rfl, hM⟩ := hrel
              rename World => wk
              have s0 : wk.cell? ⟨S, 0, none⟩ = some (.slice (some ⟨b, o, none⟩) n cS) := by rw [blk_cell hM.out.s]; rfl
              have lS := blk_lt hM.out.s
              have lG := blk_lt hM.out.g
              have p1 := (hM.out.below.cell (p := ⟨b, o + i * 2 + 1, none⟩) hb).trans P1.out
              have lb : b < wk.heap.size := Nat.lt_of_lt_of_le hb hM.out.below.size
              have HM3 := Lib.hid hM.out
              have hgi := rowQ_cell hM.out.g i hin
              rw [hfii] at hgi
              clear hM
              by_cases hk0 : (0 : Int) < (fs.length : Int)
              · go_wp2_with fail
                go_roundw
                case rel => exact ⟨i + 1, by go_num, HIN.out, by rw [HSTEP.out]; exact HM3.out⟩
                case measure => have := HIN.out; simp [intOf]; omega
              · go_wp2_with fail
                go_roundw
                case rel => exact ⟨i + 1, by go_num, HIN.out, by rw [HSTEP.out]; exact HM3.out⟩
                case measure => have := HIN.out; simp [intOf]; omega
        · obtain rfl : i = n := by omega
          have HI := Lib.hid hI.out
          clear hI
          go_wp2_with fail
          go_roundw
          case rel => exact ⟨m + 1, by go_num, by omega, by rw [HFM.out] at HI; exact HI.out⟩
          case measure => simp [intOf]; omega
    · obtain rfl : m = n := by omega
      have HM := Lib.hid hM.out
      clear hM
      go_wp2_with fail
      clear s0 lS
      go_loopw [8] (fun v8 wi => ∃ i : Nat, v8 = .int .i64 (i : Int) ∧ i ≤ m ∧ Hid (SeenI w aS cS vE (root : Int) m S G (rounds (outsS s) m (fun _ => false) (fun x => x == root) m) wi) ∧ Hid (∀ j, j < i → (rounds (outsS s) m (fun _ => false) (fun x => x == root) m j && rounds (outsS s) m (fun y => y == j) (fun _ => false) (m + 1) j) = false)) (fun v8 _ => m - (intOf v8).toNat)
      case atStart => exact ⟨0, rfl, by omega, HM.out, fun j hj => absurd hj (by omega)⟩
      case round =>
        obtain ⟨i, rfl, hi, hI, hAll⟩ := hrel
        rename World => wi
        have s0 : wi.cell? ⟨S, 0, none⟩ = some (.slice aS m cS) := by rw [blk_cell hI.out.s]; rfl
        have s1 : wi.cell? ⟨S, 1, none⟩ = some vE := by rw [blk_cell hI.out.s]; rfl
        have s2 : wi.cell? ⟨S, 2, none⟩ = some (.int .i64 (root : Int)) := by rw [blk_cell hI.out.s]; rfl
        have lS := blk_lt hI.out.s
        have lG := blk_lt hI.out.g
        by_cases hin : i < m
        · have hiI : (i : Int) < (m : Int) := by omega
          have HIN := Lib.hid hin
          have hgi := rowQ_cell hI.out.g i hin
          have hcal := HRET.out i hin wi hI.out.below
          have HI := Lib.hid hI.out
          clear hI
          cases hR : rounds (outsS s) m (fun _ => false) (fun x => x == root) m i with
          | false =>
            rw [hR] at hgi
            have HA := Lib.hid (show (rounds (outsS s) m (fun _ => false) (fun x => x == root) m i && rounds (outsS s) m (fun y => y == i) (fun _ => false) (m + 1) i) = false by rw [hR]; rfl)
            clear hR hcal
            go_wp2_with fail
            go_roundw
            case rel => exact ⟨i + 1, by go_num, HIN.out, HI.out, fun j hj => by
              by_cases e : j = i
              · subst e; exact HA.out
              · exact hAll.out j (by omega)⟩
            case measure => have := HIN.out; simp [intOf]; omega
          | true =>
            rw [hR] at hgi
            have HR1 := Lib.hid hR
            have HCAL := Lib.hid hcal
            clear hR hcal
            cases hB : rounds (outsS s) m (fun y => y == i) (fun _ => false) (m + 1) i with
            | true =>
              have hcal := HCAL.out
              rw [hB] at hcal
              have HCAL2 := Lib.hid hcal
              have hans : loopsR (outsS s) m root = true := by
                unfold loopsR
                rw [List.any_eq_true]
                exact ⟨i, List.mem_range.2 hin, by rw [HR1.out, hB]; rfl⟩
              have HANS := Lib.hid hans
              clear hcal hB hans HCAL
              go_wp2_with fail
              refine HCAL2.out.mono ?_
              rintro e w3 ⟨rfl, hB3⟩
              have HB3 := Lib.hid (HI.out.below.trans (hB3.mono HI.out.below.size))
              clear hB3
              go_wp2_with fail
              go_ret
              exact ⟨by rw [HANS.out]; rfl, HB3.out⟩
            | false =>
              have hcal := HCAL.out
              rw [hB] at hcal
              have HCAL2 := Lib.hid hcal
              have HA := Lib.hid (show (rounds (outsS s) m (fun _ => false) (fun x => x == root) m i && rounds (outsS s) m (fun y => y == i) (fun _ => false) (m + 1) i) = false by rw [hB, Bool.and_false])
              clear hcal hB HCAL
              go_wp2_with fail
              refine HCAL2.out.mono ?_
              rintro e w3 ⟨rfl, hB3⟩
              have HI3 := Lib.hid (HI.out.run hB3)
              clear hB3
              go_wp2_with fail
              go_roundw
              case rel => exact ⟨i + 1, by go_num, HIN.out, HI3.out, fun j hj => by
                by_cases e : j = i
                · subst e; exact HA.out
                · exact hAll.out j (by omega)⟩
              case measure => have := HIN.out; simp [intOf]; omega
        · obtain rfl : i = m := by omega
          have HB := Lib.hid hI.out.below
          have hans : loopsR (outsS s) i root = false := by
            unfold loopsR
            rw [List.any_eq_false]
            intro j hj
            rw [hAll.out j (List.mem_range.1 hj)]; simp
          have HANS := Lib.hid hans
          clear hI hans hAll
          go_wp2_with fail
          go_ret
          exact ⟨by rw [HANS.out]; rfl, HB.out⟩

end Go.Proofs.Ytgoaiokpnifhfaa

/-
  transomhand05.Made: of any plan.
-/
namespace Go.Proofs.Ytgoaiokpnifhfaa
open Go.RowKit
set_option linter.unusedVariables false
set_option linter.unusedSimpArgs false

theorem madeAll_calls (v : Value) (p : PlanD) (w : World) (hp : PlanAt w v p) : Calls Try.prog 9 #[v] w (MadePost w p) := by
  by_cases h : 1 ≤ p.structs.length ∧ p.structs.length ≤ 16 ∧ p.enums.length ≤ 8
  · exact made_good v p w hp h.1 h.2.1 h.2.2
  · exact made_bad v p w hp (by omega)

end Go.Proofs.Ytgoaiokpnifhfaa

/-
  A plan that came in is what it was behind new blocks.
-/
namespace Go.Proofs.Ytgoaiokpnifhfaa
open Go.RowKit
set_option linter.unusedVariables false
set_option linter.unusedSimpArgs false

theorem PListAt.later {w w' : World} {v : Value} {fs : List PField} (h : PListAt w v fs) (hb : Below w.heap.size w w') : PListAt w' v fs := by
  obtain ⟨A, c, rfl, hok, hl⟩ := h
  refine ⟨A, c, rfl, hok, fun h0 => ?_⟩
  obtain ⟨b, o, rfl, hlt, hf⟩ := hl h0
  refine ⟨b, o, rfl, Nat.lt_of_lt_of_le hlt hb.size, fun i hi => ?_⟩
  have key : ∀ j, w'.cell? ⟨b, j, none⟩ = w.cell? ⟨b, j, none⟩ := fun j => hb.cell (p := ⟨b, j, none⟩) hlt
  simp only [key]
  exact hf i hi

theorem PlanAt.later {w w' : World} {v : Value} {p : PlanD} (h : PlanAt w v p) (hb : Below w.heap.size w w') : PlanAt w' v p := by
  obtain ⟨⟨A, ce, B, cs, rfl, hE, hS⟩, hr, he⟩ := h
  refine ⟨⟨A, ce, B, cs, rfl, fun h0 => ?_, fun h0 => ?_⟩, hr, he⟩
  · obtain ⟨b, o, rfl, hlt, hc⟩ := hE h0
    refine ⟨b, o, rfl, Nat.lt_of_lt_of_le hlt hb.size, fun i hi => ?_⟩
    rw [hb.cell (p := ⟨b, o + i, none⟩) hlt]; exact hc i hi
  · obtain ⟨b, o, rfl, hlt, hc⟩ := hS h0
    refine ⟨b, o, rfl, Nat.lt_of_lt_of_le hlt hb.size, fun i hi => ?_⟩
    obtain ⟨u, hu, hp⟩ := hc i hi
    exact ⟨u, by rw [hb.cell (p := ⟨b, o + i, none⟩) hlt]; exact hu, hp.later hb⟩

end Go.Proofs.Ytgoaiokpnifhfaa

/-
  A plan that came in, as the row reads it: its parts.
-/
namespace Go.Proofs.Ytgoaiokpnifhfaa
open Go.RowKit Go.ChangeShapes Go.WideShapes Go.Deep Go.Joins
set_option linter.unusedVariables false
set_option linter.unusedSimpArgs false

set_option maxRecDepth 100000 in
theorem pfield_open {H : Type} {enc : TypeId × Value → H} {w : World} {base n : Nat} {spare : Nat → Bool} {held : Bool} {cs : List Value} {y : DataW H × List MemPlace}
    (h : DataW.trod enc Try.prog w base spare held n 79 cs = some y) : ∃ f : PField, f.ok ∧ cs = [.int .u8 f.kind, .int .u8 f.lists, .int .u8 f.ref, .int .u8 f.name, .int .u64 f.df] := by
  obtain ⟨xs, m, _, _, hcl, hxl, hf⟩ := DataW.trod_struct Try.underlying79 h
  have hC : Try.prog.cellsOf 79 = 5 := by kernel_rfl
  have c8 : Try.prog.cellsOf 5 = 1 := by kernel_rfl
  have c64 : Try.prog.cellsOf 68 = 1 := by kernel_rfl
  rw [hC] at hcl
  obtain ⟨v0, v1, v2, v3, v4, rfl⟩ : ∃ v0 v1 v2 v3 v4, cs = [v0, v1, v2, v3, v4] := by
    clear hf hxl h
    rcases cs with _ | ⟨a, _ | ⟨b, _ | ⟨c, _ | ⟨d, _ | ⟨e, _ | ⟨f, l⟩⟩⟩⟩⟩⟩
    · cases hcl
    · cases hcl
    · cases hcl
    · cases hcl
    · cases hcl
    · exact ⟨a, b, c, d, e, rfl⟩
    · simp at hcl
  have hx : ∀ i, i < 5 → ∃ z, xs[i]? = some z := fun i hi => ⟨_, List.getElem?_eq_getElem (by rw [hxl]; exact hi)⟩
  obtain ⟨z0, g0⟩ := hx 0 (by omega)
  obtain ⟨z1, g1⟩ := hx 1 (by omega)
  obtain ⟨z2, g2⟩ := hx 2 (by omega)
  obtain ⟨z3, g3⟩ := hx 3 (by omega)
  obtain ⟨z4, g4⟩ := hx 4 (by omega)
  have k0 : DataW.trod enc Try.prog w base spare held m 5 (List.take (Try.prog.cellsOf 5) [v0, v1, v2, v3, v4]) = some z0 := (hf 0 _ rfl).trans g0
  rw [c8] at k0
  simp only [List.take_succ_cons, List.take_zero] at k0
  have k1 : DataW.trod enc Try.prog w base spare held m 5 (List.take (Try.prog.cellsOf 5) [v1, v2, v3, v4]) = some z1 := (hf 1 _ rfl).trans g1
  rw [c8] at k1
  simp only [List.take_succ_cons, List.take_zero] at k1
  have k2 : DataW.trod enc Try.prog w base spare held m 5 (List.take (Try.prog.cellsOf 5) [v2, v3, v4]) = some z2 := (hf 2 _ rfl).trans g2
  rw [c8] at k2
  simp only [List.take_succ_cons, List.take_zero] at k2
  have k3 : DataW.trod enc Try.prog w base spare held m 5 (List.take (Try.prog.cellsOf 5) [v3, v4]) = some z3 := (hf 3 _ rfl).trans g3
  rw [c8] at k3
  simp only [List.take_succ_cons, List.take_zero] at k3
  have k4 : DataW.trod enc Try.prog w base spare held m 68 (List.take (Try.prog.cellsOf 68) [v4]) = some z4 := (hf 4 _ rfl).trans g4
  rw [c64] at k4
  simp only [List.take_succ_cons, List.take_zero] at k4
  obtain ⟨n0, e0, _, w0⟩ := DataW.trod_int Try.underlying5 k0
  obtain ⟨n1, e1, _, w1⟩ := DataW.trod_int Try.underlying5 k1
  obtain ⟨n2, e2, _, w2⟩ := DataW.trod_int Try.underlying5 k2
  obtain ⟨n3, e3, _, w3⟩ := DataW.trod_int Try.underlying5 k3
  obtain ⟨n4, e4, _, w4⟩ := DataW.trod_int Try.underlying68 k4
  have b0 := bounds_u8 w0
  have b1 := bounds_u8 w1
  have b2 := bounds_u8 w2
  have b3 := bounds_u8 w3
  have b4 := bounds_u64 w4
  simp only [List.cons.injEq, and_true] at e0 e1 e2 e3 e4
  subst e0 e1 e2 e3 e4
  exact ⟨⟨n0, n1, n2, n3, n4⟩, ⟨⟨b0.1, Int.lt_add_one_of_le b0.2⟩, ⟨b1.1, Int.lt_add_one_of_le b1.2⟩, ⟨b2.1, Int.lt_add_one_of_le b2.2⟩, ⟨b3.1, Int.lt_add_one_of_le b3.2⟩, b4.1, Int.lt_add_one_of_le b4.2⟩, rfl⟩

set_option maxRecDepth 100000 in
theorem plist_open {H : Type} {enc : TypeId × Value → H} {w : World} {base n : Nat} {spare : Nat → Bool} {held : Bool} {v : Value} {y : DataW H × List MemPlace}
    (h : DataW.trod enc Try.prog w base spare held n 77 [v] = some y) : ∃ fs, PListAt w v fs := by
  rcases open_slice Try.underlying77 h with ⟨hcs, _⟩ | ⟨a, len, cap, m, n', D, Pl, hcs, hb, hl, hm, hmm, _, hx⟩
  · simp only [List.cons.injEq, and_true] at hcs
    exact ⟨[], none, 0, hcs, by simp, fun h => absurd h (by simp)⟩
  · simp only [List.cons.injEq, and_true] at hcs
    have hC : Try.prog.cellsOf 79 = 5 := by kernel_rfl
    rw [hC] at hx
    have hlm : len ≤ m := by rw [hmm]; split <;> omega
    obtain ⟨F, hF⟩ := choose_lt (α := PField) (n := len) (p := fun i f => f.ok ∧ ∀ j, j < 5 → w.cell? ((a.add (i * 5)).add j) = [Value.int .u8 f.kind, .int .u8 f.lists, .int .u8 f.ref, .int .u8 f.name, .int .u64 f.df][j]?) (fun i hi => by
      obtain ⟨cs', h1, h2⟩ := hx i (by omega)
      obtain ⟨f, hok, rfl⟩ := pfield_open h2
      exact ⟨f, hok, (World.cells?_some h1).2.2⟩)
    refine ⟨(List.range len).map F, some a, cap, by simpa using hcs, fun f hf => ?_, fun h0 => ?_⟩
    · obtain ⟨i, hi, rfl⟩ := List.mem_map.1 hf
      exact (hF i (List.mem_range.1 hi)).1
    · have h0' : 0 < len := by simpa using h0
      obtain ⟨b, o, spot⟩ := a
      have hs0 : w.cell? ⟨b, o, spot⟩ = some (.int .u8 (F 0).kind) := by simpa [Addr.add] using (hF 0 h0').2 0 (by omega)
      have hspot : spot = none := by simpa using World.cell?_spot hs0
      subst hspot
      refine ⟨b, o, rfl, World.block_lt_of_cell? w _ hs0, fun i hi => ?_⟩
      have hi' : i < len := by simpa using hi
      have e : pfget ((List.range len).map F) i = F i := by unfold pfget; rw [getElem!_pos _ i hi]; simp
      rw [e]
      have hc := (hF i hi').2
      simp only [Addr.add_lit] at hc
      exact ⟨hc 0 (by omega), hc 1 (by omega), hc 2 (by omega), hc 3 (by omega), hc 4 (by omega)⟩

set_option maxRecDepth 100000 in
theorem plan_open {H : Type} {enc : TypeId × Value → H} {w : World} {r : Reach} {b0 base : Nat} {spare : Nat → Bool} {held : Bool} {v : Value} {d : DataW H} {ps : List MemPlace}
    (hval : Value.okWide Try.prog w r b0 48 v) (hd : DataW.Trod enc Try.prog w base spare held 48 v d ps) : ∃ p, PlanAt w v p := by
  obtain ⟨v0, v1, v2, v3, y0, y1, y2, y3, n, rfl, _, _, h0, h1, h2, h3⟩ := open_agg4 Try.underlying48 (by kernel_rfl) (by kernel_rfl) hval hd
  obtain ⟨en, A, ce, rfl, hen, hE⟩ : ∃ (en : List Int) (A : Option Addr) (ce : Nat), v0 = .slice A en.length ce ∧ (∀ n ∈ en, byteOk n) ∧ (0 < en.length → ∃ b o, A = some ⟨b, o, none⟩ ∧ b < w.heap.size ∧ ∀ i, i < en.length → w.cell? ⟨b, o + i, none⟩ = some (.int .u8 (iget en i))) := by
    rcases open_ints Try.underlying45 Try.underlying5 (by kernel_rfl) h0 with ⟨hcs, _⟩ | ⟨a, len, cap, zs, hcs, _, hl, hm, hz, _, hcell, hwz⟩
    · simp only [List.cons.injEq, and_true] at hcs
      exact ⟨[], none, 0, hcs, by simp, fun h => absurd h (by simp)⟩
    · simp only [List.cons.injEq, and_true] at hcs
      have hlz : len ≤ zs.length := by rw [hz]; split <;> omega
      have hlt : (zs.take len).length = len := by simp; omega
      refine ⟨zs.take len, some a, cap, by rw [hlt]; exact hcs, fun n hn => ?_, fun h0 => ?_⟩
      · have := bounds_u8 (hwz n (List.mem_of_mem_take hn))
        exact ⟨this.1, by omega⟩
      · rw [hlt] at h0
        obtain ⟨b, o, rfl, hc⟩ := ints_at hcell (by omega)
        refine ⟨b, o, rfl, World.block_lt_of_cell? w _ (hc 0 (by omega)), fun i hi => ?_⟩
        rw [hlt] at hi
        rw [hc i (by omega)]
        unfold iget
        rw [getElem!_pos _ i (by rw [hlt]; exact hi)]
        simp [List.getD, List.getElem?_eq_getElem (show i < zs.length by omega)]
  obtain ⟨ss, B, cs, rfl, hS⟩ : ∃ (ss : List (List PField)) (B : Option Addr) (cs : Nat), v1 = .slice B ss.length cs ∧ (0 < ss.length → ∃ b o, B = some ⟨b, o, none⟩ ∧ b < w.heap.size ∧ ∀ i, i < ss.length → ∃ u, w.cell? ⟨b, o + i, none⟩ = some u ∧ PListAt w u (psget ss i)) := by
    rcases open_slice1 Try.underlying46 (by kernel_rfl) h1 with ⟨hcs, _⟩ | ⟨a, len, cap, m, n', V, D, Pl, hcs, _, hl, hm, hmm, _, hx⟩
    · simp only [List.cons.injEq, and_true] at hcs
      exact ⟨[], none, 0, hcs, fun h => absurd h (by simp)⟩
    · simp only [List.cons.injEq, and_true] at hcs
      have hlm : len ≤ m := by rw [hmm]; split <;> omega
      obtain ⟨F, hF⟩ := choose_lt (α := List PField) (n := len) (p := fun i fs => PListAt w (V i) fs) (fun i hi => plist_open (hx i (by omega)).2)
      refine ⟨(List.range len).map F, some a, cap, by simpa using hcs, fun h0 => ?_⟩
      have h0' : 0 < len := by simpa using h0
      obtain ⟨b, o, spot⟩ := a
      have hs0 : w.cell? ⟨b, o, spot⟩ = some (V 0) := by simpa [Addr.add] using (hx 0 (by omega)).1
      have hspot : spot = none := by simpa using World.cell?_spot hs0
      subst hspot
      refine ⟨b, o, rfl, World.block_lt_of_cell? w _ hs0, fun i hi => ?_⟩
      have hi' : i < len := by simpa using hi
      have e : psget ((List.range len).map F) i = F i := by unfold psget; rw [getElem!_pos _ i hi]; simp
      rw [e]
      have hc := (hx i (by omega)).1
      rw [Addr.add_lit] at hc
      exact ⟨_, hc, hF i hi'⟩
  obtain ⟨rt, e2, _, w2⟩ := DataW.trod_int Try.underlying5 h2
  obtain ⟨tr, e3, _⟩ := DataW.trod_bool Try.underlying4 h3
  simp only [List.cons.injEq, and_true] at e2 e3
  subst e2 e3
  have b2 := bounds_u8 w2
  exact ⟨⟨en, ss, rt, tr⟩, ⟨A, ce, B, cs, rfl, hE, hS⟩, ⟨b2.1, Int.lt_add_one_of_le b2.2⟩, hen⟩

end Go.Proofs.Ytgoaiokpnifhfaa

/-
  SchemaLoops: the walk.
-/
namespace Go.Proofs.Ytgoaiokpnifhfaa
open Go.RowKit
set_option linter.unusedVariables false
set_option linter.unusedSimpArgs false

theorem outsS_bd {s : FSchema} (hok : SchOk s) : ∀ i, ∀ j ∈ outsS s i, j < s.structs.length := by
  intro i j hj
  by_cases hi : i < s.structs.length
  · exact outsS_lt hok i hi j hj
  · exfalso
    have e : rget s.structs i = ⟨ByteArray.empty, []⟩ := by
      unfold rget
      rw [getElem!_neg _ _ (by simpa using hi)]; rfl
    unfold outsS at hj
    rw [e] at hj
    cases hj
theorem made_up (p : PlanD) (ht : p.tree = true) (i k : Nat) (f : PField) (hi : i < p.structs.length) (hf : 0 ≤ f.ref) (h : (madeField p i k f).kind = 13) : (i : Int) < (madeField p i k f).ref := by
  have h2 : kind2 p i f = 13 := h
  have h3 : kind2 p i f = 13 := h
  show (i : Int) < ref2 p i f
  unfold kind2 at h2
  split at h2
  · cases h2
  · rename_i hn
    have h1 : kind1 p f = 13 := h2
    have hne : i + 1 ≠ p.structs.length := fun e => hn ⟨h1, ht, e⟩
    have hm : 0 ≤ f.ref % ((p.structs.length : Int) - i - 1) := Int.emod_nonneg _ (by omega)
    unfold ref2
    rw [if_neg (by rw [h3]; decide), if_pos h3, if_pos ht]
    omega
theorem made_ups (p : PlanD) (ht : p.tree = true) (hok : SchOk (madeP p)) (hf : ∀ l ∈ p.structs, ∀ f ∈ l, f.ok) : ∀ i, ∀ j ∈ outsS (madeP p) i, i < j := by
  intro i j hj
  have hn : (madeP p).structs.length = p.structs.length := by simp [madeP]
  by_cases hi : i < p.structs.length
  · have e : rget (madeP p).structs i = madeRecord p i := by rw [madeP, rget_map _ _ _ hi]
    unfold outsS at hj
    rw [e] at hj
    have key : ∀ k, k ≤ (madeRecord p i).fields.length → ∀ j ∈ outsTo (madeRecord p i).fields k, i < j := by
      intro k
      induction k with
      | zero => intro _ j hj; cases hj
      | succ k ih =>
        intro hk j hj
        rw [outsTo, List.mem_append] at hj
        rcases hj with hj | hj
        · exact ih (by omega) j hj
        · split at hj
          · rename_i h13
            obtain rfl := List.mem_singleton.1 hj
            have hl : (madeRecord p i).fields.length = (psget p.structs i).length := by simp [madeRecord, madeFields]
            have hk2 : k < (psget p.structs i).length := by omega
            have ef : fget (madeRecord p i).fields k = madeField p i k (pfget (psget p.structs i) k) := by
              rw [fget_eq _ _ (by omega)]
              simp [madeRecord, madeFields]
            rw [ef] at h13 ⊢
            have hmem : psget p.structs i ∈ p.structs := by
              have e : psget p.structs i = p.structs[i] := getElem!_pos p.structs i hi
              rw [e]; exact List.getElem_mem hi
            have hfo : (pfget (psget p.structs i) k).ok := hf (psget p.structs i) hmem _ (pfget_mem _ k hk2)
            have := made_up p ht i k (pfget (psget p.structs i) k) hi hfo.2.2.1.1 h13
            omega
          · cases hj
    exact key _ (Nat.le_refl _) j hj
  · exact absurd (outsS_bd hok i j hj) (by
      intro _
      have e : rget (madeP p).structs i = ⟨ByteArray.empty, []⟩ := by
        unfold rget
        rw [getElem!_neg _ _ (by omega)]; rfl
      unfold outsS at hj
      rw [e] at hj
      cases hj)

/-- a callee that needs to know that it comes behind a world -/
theorem quietBB {P : Program} {f : FuncId} {args : Array Value} {w : World} {X : BelowOf w} {v : Value}
    (h : ∀ W', Below w.heap.size w W' → Calls P f args W' fun e w' => e = .returned v ∧ Below W'.heap.size W' w') : Calls P f args X.val fun e w'' => e = .returned v ∧ ∃ Y : BelowOf w, w'' = Y.val := quietB (h X.val X.ok)

set_option maxHeartbeats 4000000 in
set_option maxRecDepth 100000 in
theorem schemaLoops_walk (v : Value) (p : PlanD) (w : World) (hp : PlanAt w v p) :
    Calls Try.prog 5 #[v] w fun e w' => e = .returned (.bool true) ∧ Below w.heap.size w w' := by
  have hfl := plan_flds hp
  obtain ⟨⟨A, ce, B, cs, rfl, hE, hS⟩, hroot, hen⟩ := hp
  have hp : PlanAt w (.agg #[.slice A p.enums.length ce, .slice B p.structs.length cs, .int .u8 p.root, .bool p.tree]) p := ⟨⟨A, ce, B, cs, rfl, hE, hS⟩, hroot, hen⟩
  have HP := Lib.hid hp
  have HOKS := Lib.hid (fun hok => made_sch_ok p hok hroot hen hfl)
  have HFL := Lib.hid hfl
  obtain ⟨W, hW⟩ : ∃ W, W = w.alloc (Obj.cells #[.slice A p.enums.length ce, .slice B p.structs.length cs, .int .u8 p.root, .bool p.tree] 48) := ⟨_, rfl⟩
  have hbW : Below w.heap.size w W := by rw [hW]; exact below1 _ _
  have hPB : W.heap[w.heap.size]? = some (.cells #[.slice A p.enums.length ce, .slice B p.structs.length cs, .int .u8 p.root, .bool p.tree] 48 (0, 0)) := by rw [hW]; exact blk_new _ _
  have HBW := Lib.hid hbW
  have HPB := Lib.hid hPB
  clear hp hE hS hen hroot hfl hbW hPB
  go_enter Try.func5, Try.ntmps5
  go_wp2_with fail
  rw [← hW]
  obtain ⟨Q, hQ⟩ : ∃ Q, Q = w.heap.size := ⟨_, rfl⟩
  rw [← hQ] at HPB ⊢
  refine (awake05_calls W).mono ?_
  rintro e w1 ⟨rfl, hB1⟩
  have hP1 := blk_below HPB.out hB1 (blk_lt HPB.out)
  have p0 : w1.cell? ⟨Q, 0, none⟩ = _ := (blk_cell hP1 0).trans rfl
  have p1 : w1.cell? ⟨Q, 1, none⟩ = _ := (blk_cell hP1 1).trans rfl
  have p2 : w1.cell? ⟨Q, 2, none⟩ = _ := (blk_cell hP1 2).trans rfl
  have p3 : w1.cell? ⟨Q, 3, none⟩ = _ := (blk_cell hP1 3).trans rfl
  have lQ := blk_lt hP1
  have HB1 := Lib.hid (HBW.out.trans (hB1.mono HBW.out.size))
  have HP1 := Lib.hid hP1
  clear hB1 hP1 hW hQ
  go_wp2_with fail
  refine (madeAll_calls _ p _ (HP.out.later HB1.out)).mono ?_
  rintro e w2 ⟨hB2, hm⟩
  have HB2 := Lib.hid (HB1.out.trans (hB2.mono HB1.out.size))
  have HP2 := Lib.hid (blk_below HP1.out hB2 (blk_lt HP1.out))
  clear hB2 p0 p1 p2 p3 lQ
  rcases hm with ⟨hno, rfl⟩ | ⟨hok, vv, rfl, hsch⟩
  · clear hno
    go_wp2_with fail
    go_ret
    exact ⟨rfl, HB2.out.trans ((below1 _ _).mono HB2.out.size)⟩
  · have hso := HOKS.out hok
    obtain ⟨aS, cS, aE, cE, rfl, hrows⟩ := schRows_of hsch
    have hrt : (madeP p).root.toNat < (madeP p).structs.length := by have := hso.r0; have := hso.r1; omega
    have hsame := loops_same (outsS_bd hso) hrt
    have htree := fun ht => loops_tree (outsS_bd hso) hrt (made_ups p ht hso HFL.out)
    have HSO := Lib.hid hso
    clear hok hsch hrt
    have hx3 := below1 w2 (Obj.cells #[.slice aS (madeP p).structs.length cS, .slice aE (madeP p).enums.length cE, .int .i64 (madeP p).root] 52)
    have hS3 := blk_new w2 (Obj.cells #[.slice aS (madeP p).structs.length cS, .slice aE (madeP p).enums.length cE, .int .i64 (madeP p).root] 52)
    have hP3 := blk_below HP2.out hx3 (blk_lt HP2.out)
    have HRO := Lib.hid (hrows.below hx3)
    generalize madeP p = sch at *
    go_upto_region 6 with (fail)
    obtain ⟨w3, hw3⟩ : ∃ w3, w3 = w2.alloc (Obj.cells #[.slice aS sch.structs.length cS, .slice aE sch.enums.length cE, .int .i64 sch.root] 52) := ⟨_, rfl⟩
    rw [← hw3] at hx3 hS3 hP3 HRO ⊢
    obtain ⟨R, hR⟩ : ∃ R, R = w2.heap.size := ⟨_, rfl⟩
    rw [← hR] at hS3 ⊢
    have HB3 := Lib.hid (HB2.out.trans (hx3.mono HB2.out.size))
    have s0 : w3.cell? ⟨R, 0, none⟩ = some (.slice aS sch.structs.length cS) := by rw [blk_cell hS3]; rfl
    have s1 : w3.cell? ⟨R, 1, none⟩ = some (.slice aE sch.enums.length cE) := by rw [blk_cell hS3]; rfl
    have s2 : w3.cell? ⟨R, 2, none⟩ = some (.int .i64 sch.root) := by rw [blk_cell hS3]; rfl
    have p3 : w3.cell? ⟨Q, 3, none⟩ = some (.bool p.tree) := by rw [blk_cell hP3]; rfl
    have lR := blk_lt hS3
    have lQ := blk_lt hP3
    have hl1 := fun (W' : World) (hb : Below w3.heap.size w3 W') => loops_calls sch HSO.out aS aE cS cE W' (HRO.out.below hb)
    have hl2 := fun (W' : World) (hb : Below w3.heap.size w3 W') => refLoops_calls sch HSO.out aS cS aE cE W' (HRO.out.below hb)
    rw [← hsame] at hl2
    generalize loopsD (outsS sch) sch.structs.length sch.root.toNat = x at *
    have HL1 := Lib.hid hl1
    have HL2 := Lib.hid hl2
    clear hw3 hR hx3 hS3 hP3 hsame hrows hl1 hl2
    cases ht : p.tree with
    | false =>
      rw [ht] at p3
      clear htree
      (have hX := BelowOf.cell w3; refine wp_region_below_lit (by kernel_rfl) (by kernel_rfl) ?_; (repeat (go_big_quiet_step (first | exact quietBB (fun W' hb => HL1.out W' hb) | exact quietBB (fun W' hb => HL2.out W' hb)))); refine wpQuiet_nil ?_); intro wB hw'; obtain ⟨⟨wB', hB'⟩, hw''⟩ := hw'; have hB : Below (World.heap w3).size w3 wB := (by rw [hw'']; exact hB'); clear hw'' hB' hX; clear wB'; have hzB := hB.size; obtain ⟨hcB, hfB⟩ := bcell hB
      go_wp2_with fail
      go_ret
      exact ⟨rfl, HB3.out.trans (hB.mono HB3.out.size)⟩
    | true =>
      rw [ht] at p3
      have hx := htree ht
      subst hx
      (have hX := BelowOf.cell w3; refine wp_region_below_lit (by kernel_rfl) (by kernel_rfl) ?_; (repeat (go_big_quiet_step (first | exact quietBB (fun W' hb => HL1.out W' hb) | exact quietBB (fun W' hb => HL2.out W' hb)))); refine wpQuiet_nil ?_); intro wB hw'; obtain ⟨⟨wB', hB'⟩, hw''⟩ := hw'; have hB : Below (World.heap w3).size w3 wB := (by rw [hw'']; exact hB'); clear hw'' hB' hX; clear wB'; have hzB := hB.size; obtain ⟨hcB, hfB⟩ := bcell hB
      go_wp2_with fail
      go_ret
      exact ⟨rfl, HB3.out.trans (hB.mono HB3.out.size)⟩

end Go.Proofs.Ytgoaiokpnifhfaa

/-
  The statement SchemaLoops: for every input the law returns true, and its arguments read afterwards as they read before. No condition.
-/
namespace Go.Proofs.Ytgoaiokpnifhfaa.schemaLoops
open Go.ChangeShapes Go.WideShapes Go.ChangeAt Go.RowKit
open Go.ChangeMaps (open_string shut_string)
set_option linter.unusedVariables false
theorem own : ownKnob Try.prog.godebug = none := by kernel_rfl
theorem laidOut : laidOutB Try.prog = true := by kernel_rfl
set_option maxRecDepth 100000 in
theorem lifted (os : Os) (started : os.Started) (H : Type) (enc : TypeId × Value → H) :
    ReturnsInHanded {} Try.checked os 5 .any (Rows.schemaLoopsSpec.pre6 enc Try.prog Try.f5 Rows.schemaLoopsRow.domain false) (Rows.schemaLoopsSpec.post enc Try.prog Try.f5 false true false false) := by
  refine returnsInHanded_of_change_sized (C := Try.checked) own started (by kernel_rfl) Try.func5
    (ChangeSpec.witness6 (enc := enc) (C := Try.checked) false ⟨#[], #[.agg #[.slice none 0 0, .slice none 0 0, .int .u8 0, .bool false]], []⟩ 8 (by kernel_rfl) (by kernel_rfl) (by kernel_rfl) (by kernel_rfl)) ?_
  intro W base args ds gs before hval0 hW hcnd hsz0 _
  have hsz : (DataW.weightsEach Try.prog (Try.f5.params.toList ++ Rows.schemaLoopsSpec.plain.varTypes Try.prog) (ds ++ gs)).all (· ≤ reachBytes) = true := hsz0
  have hval : ∀ (j : Nat) t v, Try.f5.params[j]? = some t → args[j]? = some v → Value.okWide Try.prog W .any base t v := hval0
  have hW' := hW
  obtain ⟨p, q, hA0, hV, rfl, hfz, hnd⟩ := hW
  have hA : DataW.TrodAll enc Try.prog W 0 (fun _ => true) true Try.f5.params.toList args.toList ds p := hA0
  rw [Try.params5] at hA hval hsz
  obtain ⟨v0, vs0, d0, ds0, p0, q0, hargs, rfl, rfl, h0, r0⟩ := trodAll_cons hA
  obtain ⟨rfl, rfl, rfl⟩ := trodAll_nil r0
  obtain rfl : args = #[v0] := by cases args; simp_all
  obtain ⟨rfl, rfl⟩ := trodVars_none hV
  have k0 := h0
  have lt0 : ∀ x ∈ p0, x.block < W.heap.size := by obtain ⟨m, hm⟩ := k0; exact DataW.trod_lt m _ _ _ hm
  obtain ⟨z0, w0⟩ := plan_open (v := v0) (hval 0 48 v0 rfl rfl) h0
  clear hA0 hval0 hsz0 hsz
  refine (schemaLoops_walk v0 z0 W w0).mono fun e W' ⟨he, bel⟩ => ?_
  subst he
  exact ⟨_, rfl, _, _, _, [], _, [], hW', trodAll_mk1 (shut_bool Try.underlying4 _), (trodAll_cons_mk (Below.trod laidOut (by kernel_rfl) (of_decide_eq_true (by kernel_rfl)) k0 bel lt0) trodAll_mk0), rfl, bel.frame _, fun h => by cases h⟩
theorem over : Rows.schemaLoopsRow.holds Try.pinned (OpenSpec.ofChange Rows.schemaLoopsSpec) :=
  OpenClaim.holds_of_wide 5 Try.f5 rfl rfl rfl rfl rfl rfl rfl ⟨rfl, rfl, rfl, rfl, rfl⟩ rfl rfl rfl rfl rfl (by kernel_rfl) Try.func5 (by kernel_rfl)
    (of_decide_eq_true (by kernel_rfl)) (by unfold Func.isWrapper; first | (rw [if_pos (by decide +kernel)]; kernel_rfl) | (rw [if_neg (by decide +kernel)]; exact ⟨rfl, rfl⟩))
    (fun os started H enc _ => lifted os started H enc)
theorem proved : Rows.SchemaLoopsSaid := over
#print axioms proved
end Go.Proofs.Ytgoaiokpnifhfaa.schemaLoops
namespace Go.Proofs.Ytgoaiokpnifhfaa
/-- The row, under a short name, for the claim. -/
theorem schemaLoops_holds : Rows.SchemaLoopsSaid := schemaLoops.proved
end Go.Proofs.Ytgoaiokpnifhfaa
