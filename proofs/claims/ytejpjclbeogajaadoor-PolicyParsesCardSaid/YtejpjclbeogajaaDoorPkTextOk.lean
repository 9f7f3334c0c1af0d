/-
  Parts: TextOk, PolB, WayW, WayT.
-/
import Derived.Test.YtejpjclbeogajaaDoorMadeT
import Derived.Test.YtejpjclbeogajaaDoorSchRow
import Derived.Test.YtejpjclbeogajaaDoorPkPolP
import Derived.Test.YtejpjclbeogajaaDoorPkMskM
import Derived.OpenShut

/-
  What a made schema is: facts for its text.
-/
namespace Go.Proofs.YtejpjclbeogajaaDoor
open Go.RowKit
set_option linter.unusedVariables false
set_option linter.unusedSimpArgs false

structure FldOk (s : FSchema) (f : FField) : Prop where
  name : f.name.size ≤ 7
  k1 : 1 ≤ f.kind
  k13 : f.kind ≤ 13
  l0 : 0 ≤ f.lists
  l3 : f.lists ≤ 3
  d0 : 0 ≤ f.df
  d1 : f.df < 18446744073709551616
  en : f.kind = 10 → 0 ≤ f.ref ∧ f.ref < (s.enums.length : Int) ∧ f.df < ((cget s.enums f.ref.toNat).names.length : Int)
  st : f.kind = 13 → 0 ≤ f.ref ∧ f.ref < (s.structs.length : Int)
structure RecOk (s : FSchema) (r : FRecord) : Prop where
  name1 : 1 ≤ r.name.size
  name : r.name.size ≤ 2
  most : r.fields.length ≤ 16
  flds : ∀ f ∈ r.fields, FldOk s f
structure ChoOk (c : FChoice) : Prop where
  name1 : 1 ≤ c.name.size
  name : c.name.size ≤ 2
  most : c.names.length ≤ 32
  nms : ∀ k, k < c.names.length → (sget c.names k).size ≤ 3
/-- what is known of a schema that a plan makes -/
structure SchOk (s : FSchema) : Prop where
  n1 : 1 ≤ s.structs.length
  n16 : s.structs.length ≤ 16
  e8 : s.enums.length ≤ 8
  r0 : 0 ≤ s.root
  r1 : s.root < (s.structs.length : Int)
  recs : ∀ i, i < s.structs.length → RecOk s (rget s.structs i)
  chos : ∀ i, i < s.enums.length → ChoOk (cget s.enums i)

theorem bytesStr_size (ns : List Int) : (bytesStr ns).size = ns.length := by
  unfold bytesStr
  have h : ∀ (l : List Int) (r : ByteArray), (l.foldl (fun r n => r.push (UInt8.ofNat n.toNat)) r).size = r.size + l.length := by
    intro l
    induction l with
    | nil => intro r; simp
    | cons a l ih => intro r; simp only [List.foldl_cons, ih, ByteArray.size_push, List.length_cons]; omega
  rw [h]; simp
theorem labelOf_size (n : Int) (i : Nat) : (labelOf n i).size ≤ 7 := by
  unfold labelOf
  rw [ByteArray.size_append, bytesStr_size]
  have : (labelHead (n % 10).toNat).size ≤ 6 := by unfold labelHead; split <;> decide
  simp only [List.length_cons, List.length_nil]
  omega
theorem nameOf_size (h : Int) (i : Nat) : (nameOf h i).size = 2 := by
  unfold nameOf
  rw [ByteArray.size_append, bytesStr_size, bytesStr_size]; rfl
theorem valName_size (k : Nat) : (valName k).size = 3 := by
  unfold valName
  rw [ByteArray.size_append, bytesStr_size, bytesStr_size]; rfl
theorem signedOf_bd (n sz : Int) (h0 : 0 ≤ n) (h1 : n < 18446744073709551616) : 0 ≤ signedOf n sz ∧ signedOf n sz < 18446744073709551616 := by
  unfold signedOf
  repeat' split
  all_goals omega
theorem numberOf_bd (nm k n : Int) (hn : 0 < nm) (hn2 : nm ≤ 32) (h0 : 0 ≤ n) (h1 : n < 18446744073709551616) : 0 ≤ numberOf nm k n ∧ numberOf nm k n < 18446744073709551616 ∧ (k = 10 → numberOf nm k n < nm) := by
  have hm0 : 0 ≤ n % nm := Int.emod_nonneg _ (by omega)
  have hm1 : n % nm < nm := Int.emod_lt_of_pos _ hn
  by_cases hk : k = 10
  · subst hk
    have e : numberOf nm 10 n = n % nm := by unfold numberOf; rfl
    rw [e]
    exact ⟨hm0, by omega, fun _ => hm1⟩
  · refine ⟨?_, ?_, fun e => absurd e hk⟩
    · unfold numberOf
      have a1 := (signedOf_bd (n % 256) 1 (by omega) (by omega)).1
      have a2 := (signedOf_bd (n % 65536) 2 (by omega) (by omega)).1
      have a3 := (signedOf_bd (n % 4294967296) 4 (by omega) (by omega)).1
      have a4 := (signedOf_bd n 8 h0 h1).1
      repeat' split
      all_goals first | assumption | omega
    · unfold numberOf
      have a1 := (signedOf_bd (n % 256) 1 (by omega) (by omega)).2
      have a2 := (signedOf_bd (n % 65536) 2 (by omega) (by omega)).2
      have a3 := (signedOf_bd (n % 4294967296) 4 (by omega) (by omega)).2
      have a4 := (signedOf_bd n 8 h0 h1).2
      repeat' split
      all_goals first | assumption | omega
theorem valCount_bd (n : Int) (h : byteOk n) : 1 ≤ valCount n ∧ valCount n ≤ 32 := by
  unfold valCount; have := h.1; omega
theorem iget_mem' (l : List Int) (i : Nat) (h : i < l.length) : iget l i ∈ l := by unfold iget; rw [getElem!_pos l i h]; exact List.getElem_mem h

theorem made_fld_ok (p : PlanD) (hok : planOk p) (he : ∀ n ∈ p.enums, byteOk n) (i k : Nat) (hi : i < p.structs.length) (f : PField) (hf : f.ok) : FldOk (madeP p) (madeField p i k f) := by
  obtain ⟨hk, hl, hr, hn, hd0, hd1⟩ := hf
  have k0 : 1 ≤ kind0 f ∧ kind0 f ≤ 13 := by unfold kind0; omega
  have k1 : 1 ≤ kind1 p f ∧ kind1 p f ≤ 13 := by unfold kind1; split <;> omega
  have k2 : 1 ≤ kind2 p i f ∧ kind2 p i f ≤ 13 := by unfold kind2; split <;> omega
  have hen : (madeP p).enums.length = p.enums.length := by simp [madeP]
  have hst : (madeP p).structs.length = p.structs.length := by simp [madeP]
  have hke : kind2 p i f = 10 → 0 < p.enums.length := fun h => by
    have h1 : kind1 p f = 10 := by
      unfold kind2 at h
      split at h
      · omega
      · exact h
    unfold kind1 at h1
    split at h1
    · omega
    · rename_i hh
      have : ¬ p.enums.length = 0 := fun e => hh ⟨h1, e⟩
      omega
  have href : kind2 p i f = 10 → ref2 p i f = f.ref % (p.enums.length : Int) := fun h => by unfold ref2; rw [if_pos h]
  have hrb : kind2 p i f = 10 → 0 ≤ ref2 p i f ∧ ref2 p i f < (p.enums.length : Int) := fun h => by
    rw [href h]
    have := hke h
    exact ⟨Int.emod_nonneg _ (by omega), Int.emod_lt_of_pos _ (by omega)⟩
  have hvc : kind2 p i f = 10 → valCount (iget p.enums (ref2 p i f).toNat) = (cget (madeP p).enums (ref2 p i f).toNat).names.length := fun h => by
    have hb := hrb h
    rw [madeP, cget_map _ _ _ (by omega)]
    simp [madeChoice, madeNames]
  have hvb : (0 : Int) < (valCount (iget p.enums (ref2 p i f).toNat) : Int) := by unfold valCount; omega
  have hvb2 : ∀ x : Int, (valCount x : Int) ≤ 32 ∧ (0 : Int) < valCount x := fun x => by
    unfold valCount
    have := Int.emod_nonneg x (show (32 : Int) ≠ 0 by decide)
    have := Int.emod_lt_of_pos x (show (0 : Int) < 32 by decide)
    omega
  have hnb := numberOf_bd (valCount (iget p.enums (ref2 p i f).toNat) : Int) (kind2 p i f) f.df hvb (hvb2 _).1 hd0 hd1
  refine ⟨labelOf_size _ _, k2.1, k2.2, ?_, ?_, ?_, ?_, ?_, ?_⟩
  · simp only [madeField]; have := hl.1; omega
  · simp only [madeField]; have := hl.1; omega
  · simp only [madeField]; split
    · exact hnb.1
    · exact Int.le_refl _
  · simp only [madeField]; split
    · exact hnb.2.1
    · decide
  · intro h
    have h' : kind2 p i f = 10 := h
    have hb := hrb h'
    refine ⟨hb.1, by rw [hen]; exact hb.2, ?_⟩
    show (madeField p i k f).df < ((cget (madeP p).enums (ref2 p i f).toNat).names.length : Int)
    rw [← hvc h']
    simp only [madeField]
    split
    · exact hnb.2.2 h'
    · exact hvb
  · intro h
    have h' : kind2 p i f = 13 := h
    rw [hst]
    show 0 ≤ ref2 p i f ∧ ref2 p i f < (p.structs.length : Int)
    have h10 : ¬ kind2 p i f = 10 := by omega
    unfold ref2
    rw [if_neg h10, if_pos h']
    by_cases ht : p.tree = true
    · rw [if_pos ht]
      have hne : i + 1 ≠ p.structs.length := fun e => by
        unfold kind2 at h'
        split at h'
        · omega
        · rename_i hh
          exact hh ⟨h', ht, e⟩
      have hpos : (0 : Int) < (p.structs.length : Int) - i - 1 := by omega
      have a := Int.emod_nonneg f.ref (show (p.structs.length : Int) - i - 1 ≠ 0 by omega)
      have b := Int.emod_lt_of_pos f.ref hpos
      omega
    · rw [if_neg ht]
      have h1 := hok.1
      exact ⟨Int.emod_nonneg _ (by omega), Int.emod_lt_of_pos _ (by omega)⟩

theorem made_sch_ok (p : PlanD) (hok : planOk p) (hroot : byteOk p.root) (he : ∀ n ∈ p.enums, byteOk n) (hf : ∀ l ∈ p.structs, ∀ f ∈ l, f.ok) : SchOk (madeP p) := by
  have hen : (madeP p).enums.length = p.enums.length := by simp [madeP]
  have hst : (madeP p).structs.length = p.structs.length := by simp [madeP]
  have h1 := hok.1
  have hrt : (madeP p).root = p.root % (p.structs.length : Int) := rfl
  refine ⟨by rw [hst]; exact hok.1, by rw [hst]; exact hok.2.1, by rw [hen]; exact hok.2.2.1, ?_, ?_, fun i hi => ?_, fun i hi => ?_⟩
  · rw [hrt]; exact Int.emod_nonneg _ (by omega)
  · rw [hrt, hst]; exact Int.emod_lt_of_pos _ (by omega)
  · rw [hst] at hi
    have hl := hok.2.2.2 _ (psget_mem p.structs i hi)
    have e : rget (madeP p).structs i = madeRecord p i := by rw [madeP, rget_map _ _ _ hi]
    rw [e]
    refine ⟨by rw [madeRecord, nameOf_size]; decide, by rw [madeRecord, nameOf_size]; exact Nat.le_refl _, by simp [madeRecord, madeFields]; omega, fun f hff => ?_⟩
    simp only [madeRecord, madeFields, List.mem_map] at hff
    obtain ⟨k, hk, rfl⟩ := hff
    exact made_fld_ok p hok he i k hi _ (hf _ (psget_mem p.structs i hi) _ (pfget_mem _ k (List.mem_range.1 hk)))
  · rw [hen] at hi
    have e : cget (madeP p).enums i = madeChoice p.enums i := by rw [madeP, cget_map _ _ _ hi]
    rw [e]
    have hv := valCount_bd _ (he _ (iget_mem' p.enums i hi))
    refine ⟨by rw [madeChoice, nameOf_size]; decide, by rw [madeChoice, nameOf_size]; exact Nat.le_refl _, by simp [madeChoice, madeNames]; exact hv.2, fun k hk => ?_⟩
    have hk2 : k < valCount (iget p.enums i) := by simpa [madeChoice, madeNames] using hk
    have : sget (madeChoice p.enums i).names k = valName k := by
      unfold sget
      rw [getElem!_pos _ k hk]
      simp [madeChoice, madeNames]
    rw [this, valName_size]; exact Nat.le_refl _

/-- the fields of a plan that is in memory are bytes -/
theorem plan_flds {w : World} {v : Value} {p : PlanD} (h : PlanAt w v p) : ∀ l ∈ p.structs, ∀ f ∈ l, f.ok := by
  obtain ⟨⟨A, ce, B, cs, rfl, hE, hS⟩, _, _⟩ := h
  intro l hl f hf
  obtain ⟨i, hi, rfl⟩ := List.mem_iff_getElem.1 hl
  obtain ⟨b, o, _, _, hc⟩ := hS (by omega)
  obtain ⟨u, _, A', c', _, hok, _⟩ := hc i hi
  refine hok f ?_
  unfold psget
  rw [getElem!_pos p.structs i hi]
  exact hf

end Go.Proofs.YtejpjclbeogajaaDoor

/-
  A made schema, as the printed texts read it.
-/
namespace Go.Proofs.YtejpjclbeogajaaDoor
open Go.RowKit
open Go.Proofs.YtejpjclbeogajaaDoorP
open Go.Proofs.YtejpjclbeogajaaDoorW.PrintWords (Kd)
set_option linter.unusedVariables false
set_option linter.unusedSimpArgs false

def fldP (f : FField) : SFld := ⟨f.name, ⟨f.kind, f.ref, f.lists⟩, f.df⟩
def recP (r : FRecord) : SRec := ⟨r.name, r.fields.map fldP⟩
def choP (c : FChoice) : SCho := ⟨c.name, c.names⟩
def recsP (s : FSchema) : List SRec := s.structs.map recP
def chosP (s : FSchema) : List SCho := s.enums.map choP
theorem recsP_len (s : FSchema) : (recsP s).length = s.structs.length := List.length_map _
theorem chosP_len (s : FSchema) : (chosP s).length = s.enums.length := List.length_map _
theorem flds_C {w : World} {b : Nat} {fs : List FField} (h : FieldsRow w b fs) (hm : fs.length ≤ 9223372036854775807) : Kd.C Pf.k79 w (some ⟨b, 0, none⟩) (fs.map fldP).length (fs.map fldP) := by
  refine C_mk (by rw [List.length_map]; exact hm) fun h0 => ⟨b, 0, rfl, fun j p hj => ?_⟩
  rw [List.getElem?_map] at hj
  obtain ⟨f, hf, rfl⟩ := Option.map_eq_some_iff.1 hj
  have hlt := (List.getElem?_eq_some_iff.1 hf).1
  obtain ⟨a0, a1, a2, a3, a4⟩ := h j hlt
  have e : fget fs j = f := by rw [fget_eq _ _ hlt]; exact (List.getElem?_eq_some_iff.1 hf).2
  rw [e] at a0 a1 a2 a3 a4
  refine ⟨_, Pf.k79_mk w (fldP f), fun i u hi => ?_⟩
  rw [show Pf.k79.sz = 5 from rfl]
  match i, hi with
  | 0, hi => obtain rfl := Option.some.inj hi; exact a0
  | 1, hi => obtain rfl := Option.some.inj hi; exact a1
  | 2, hi => obtain rfl := Option.some.inj hi; exact a2
  | 3, hi => obtain rfl := Option.some.inj hi; exact a3
  | 4, hi => obtain rfl := Option.some.inj hi; exact a4
  | i + 5, hi => simp [fldP] at hi
theorem strs_C {w : World} {b : Nat} {ns : List ByteArray} (h : StrsRow w b ns) (hm : ns.length ≤ 9223372036854775807) : Kd.C Kd.string w (some ⟨b, 0, none⟩) ns.length ns := by
  refine C_mk hm fun h0 => ⟨b, 0, rfl, fun j p hj => ?_⟩
  have hlt := (List.getElem?_eq_some_iff.1 hj).1
  have a0 := h j hlt
  have e : sget ns j = p := by unfold sget; rw [getElem!_pos _ j hlt]; exact (List.getElem?_eq_some_iff.1 hj).2
  rw [e] at a0
  refine ⟨[.string p], rfl, fun i u hi => ?_⟩
  match i, hi with
  | 0, hi => obtain rfl := Option.some.inj hi; rw [show Kd.string.sz = 1 from rfl]; simpa using a0
  | i + 1, hi => simp at hi
theorem rget_at {l : List FRecord} {j : Nat} {r : FRecord} (h : l[j]? = some r) : rget l j = r := by
  have hlt := (List.getElem?_eq_some_iff.1 h).1
  unfold rget; rw [getElem!_pos _ j hlt]; exact (List.getElem?_eq_some_iff.1 h).2
theorem cget_at {l : List FChoice} {j : Nat} {r : FChoice} (h : l[j]? = some r) : cget l j = r := by
  have hlt := (List.getElem?_eq_some_iff.1 h).1
  unfold cget; rw [getElem!_pos _ j hlt]; exact (List.getElem?_eq_some_iff.1 h).2
theorem recs_C {w : World} {aS aE : Option Addr} {s : FSchema} (h : SchRows w aS aE s) (hok : SchOk s) : Kd.C Pf.k82 w aS (recsP s).length (recsP s) := by
  refine C_mk (by rw [recsP_len]; have := hok.n16; omega) fun h0 => ?_
  rw [recsP_len] at h0
  obtain ⟨b, o, _, _, rfl, _⟩ := h.st 0 h0
  refine ⟨b, o, rfl, fun j p hj => ?_⟩
  unfold recsP at hj
  rw [List.getElem?_map] at hj
  obtain ⟨r, hr, rfl⟩ := Option.map_eq_some_iff.1 hj
  have hlt := (List.getElem?_eq_some_iff.1 hr).1
  obtain ⟨b2, o2, b', c', e, h1, h2, h3, h4, h5⟩ := h.st j hlt
  cases e
  have hrm : (rget s.structs j).fields.length ≤ 16 := (hok.recs j hlt).most
  rw [rget_at hr] at h2 h3 h4 h5 hrm
  refine ⟨_, Pf.k82_mk w (recP r) (A1 := some ⟨b', 0, none⟩) (c1 := c') ?_ (flds_C h5 (by omega)), fun i u hi => ?_⟩
  · show (r.fields.map fldP).length ≤ c'; rw [List.length_map]; exact h4.2
  · rw [show Pf.k82.sz = 2 from rfl]
    match i, hi with
    | 0, hi => obtain rfl := Option.some.inj hi; exact h2
    | 1, hi => obtain rfl := Option.some.inj hi; rw [← Nat.add_assoc]; show _ = some (Value.slice (some ⟨b', 0, none⟩) (r.fields.map fldP).length c'); rw [List.length_map]; exact h3
    | i + 2, hi => simp at hi
theorem chos_C {w : World} {aS aE : Option Addr} {s : FSchema} (h : SchRows w aS aE s) (hok : SchOk s) : Kd.C Pf.k85 w aE (chosP s).length (chosP s) := by
  refine C_mk (by rw [chosP_len]; have := hok.e8; omega) fun h0 => ?_
  rw [chosP_len] at h0
  obtain ⟨b, o, _, _, rfl, _⟩ := h.en 0 h0
  refine ⟨b, o, rfl, fun j p hj => ?_⟩
  unfold chosP at hj
  rw [List.getElem?_map] at hj
  obtain ⟨r, hr, rfl⟩ := Option.map_eq_some_iff.1 hj
  have hlt := (List.getElem?_eq_some_iff.1 hr).1
  obtain ⟨b2, o2, b', c', e, h1, h2, h3, h4, h5⟩ := h.en j hlt
  cases e
  have hrm : (cget s.enums j).names.length ≤ 32 := (hok.chos j hlt).most
  rw [cget_at hr] at h2 h3 h4 h5 hrm
  refine ⟨_, Pf.k85_mk w (choP r) (A1 := some ⟨b', 0, none⟩) (c1 := c') h4.2 (strs_C (ns := r.names) h5 (by omega)), fun i u hi => ?_⟩
  rw [show Pf.k85.sz = 2 from rfl]
  match i, hi with
  | 0, hi => obtain rfl := Option.some.inj hi; exact h2
  | 1, hi => obtain rfl := Option.some.inj hi; rw [← Nat.add_assoc]; exact h3
  | i + 2, hi => simp at hi
theorem recAt_P {s : FSchema} {i : Nat} (hi : i < s.structs.length) : recAt (recsP s) i = recP (rget s.structs i) := by
  unfold recAt recsP
  rw [List.getD_eq_getElem?_getD, List.getElem?_map, List.getElem?_eq_getElem hi, rget_at (List.getElem?_eq_getElem hi)]
  rfl
theorem recsP_W {s : FSchema} (hok : SchOk s) : SchW (recsP s) := by
  intro rec hr i hi h13
  rw [recsP_len] at hr ⊢
  rw [recAt_P hr] at hi h13 ⊢
  have hi2 : i < (rget s.structs rec).fields.length := by simpa [recP] using hi
  have hf := (hok.recs rec hr).flds _ (List.getElem_mem hi2)
  have e : fldAt (recP (rget s.structs rec)).f1 i = fldP ((rget s.structs rec).fields[i]'hi2) := by
    unfold fldAt recP
    rw [List.getD_eq_getElem?_getD, List.getElem?_map, List.getElem?_eq_getElem hi2]
    rfl
  rw [e] at h13 ⊢
  exact hf.st h13
theorem recsP_B {s : FSchema} (hok : SchOk s) : SchB (recsP s) := by
  intro rec
  by_cases hr : rec < s.structs.length
  · rw [recAt_P hr]
    have := (hok.recs rec hr).most
    show ((rget s.structs rec).fields.map fldP).length ≤ 5000
    rw [List.length_map]; omega
  · unfold recAt
    rw [List.getD_eq_getElem?_getD, List.getElem?_eq_none (by rw [recsP_len]; omega)]
    exact Nat.zero_le _

end Go.Proofs.YtejpjclbeogajaaDoor

/-
  Ways of a made schema, and a policy's text out of such: strings of a bounded size.
-/
namespace Go.Proofs.YtejpjclbeogajaaDoor
open Go.RowKit
set_option linter.unusedVariables false
set_option linter.unusedSimpArgs false

/-- what is told of a slice of integers that came in -/
def IsRow (k : IntKind) (w : World) (a : Option Addr) (len cap : Nat) (zs : List Int) : Prop :=
  (a = none ∧ len = 0 ∧ cap = 0 ∧ zs = []) ∨
  ∃ x, a = some x ∧ len ≤ cap ∧ cap ≤ maxLen ∧ zs.length = cap ∧ (∀ i, i < zs.length → w.cell? (x.add i) = some (.int k (zs.getD i 0))) ∧ ∀ n ∈ zs, (Lit.int k n).wf = true
theorem isRow_at {k : IntKind} {w : World} {a : Option Addr} {len cap : Nat} {zs : List Int} (h : IsRow k w a len cap zs) (h0 : 0 < len) : ∃ b o, a = some ⟨b, o, none⟩ ∧ b < w.heap.size ∧ ∀ i, i < len → w.cell? ⟨b, o + i, none⟩ = some (.int k (zs.getD i 0)) ∧ (Lit.int k (zs.getD i 0)).wf = true := by
  rcases h with ⟨_, e, _, _⟩ | ⟨⟨b, o, sp⟩, rfl, h1, _, h3, h4, h5⟩
  · omega
  · have hc := h4 0 (by omega)
    have hs0 : w.cell? ⟨b, o, sp⟩ = some (.int k (zs.getD 0 0)) := by simpa [Addr.add] using hc
    have hsp : sp = none := by simpa using World.cell?_spot hs0
    subst hsp
    refine ⟨b, o, rfl, World.block_lt_of_cell? w _ hs0, fun i hi => ⟨?_, ?_⟩⟩
    · have := h4 i (by omega)
      rwa [Addr.add_lit] at this
    · refine h5 _ ?_
      rw [List.getD_eq_getElem?_getD, List.getElem?_eq_getElem (show i < zs.length by omega)]
      exact List.getElem_mem _
theorem isRow_below {k : IntKind} {w w' : World} {a : Option Addr} {len cap : Nat} {zs : List Int} (h : IsRow k w a len cap zs) (hb : Below w.heap.size w w') : IsRow k w' a len cap zs := by
  rcases h with h | ⟨x, rfl, h1, h2, h3, h4, h5⟩
  · exact .inl h
  · exact .inr ⟨x, rfl, h1, h2, h3, fun i hi => (World.cell?_of_block (w := w) (a := x.add i) (hb.block _ (World.block_lt_of_cell? w _ (h4 i hi)))).trans (h4 i hi), h5⟩
theorem isRow_cap {k : IntKind} {w : World} {a : Option Addr} {len cap : Nat} {zs : List Int} (h : IsRow k w a len cap zs) : len ≤ 9223372036854775807 := by
  rcases h with ⟨_, e, _, _⟩ | ⟨x, rfl, h1, h2, _⟩
  · omega
  · have : maxLen = 9223372036854775807 ∨ maxLen ≤ 9223372036854775807 := .inr (by decide)
    omega
theorem z_dot : (⟨#[46]⟩ : ByteArray).size = 1 := rfl
theorem z_quo : (⟨#[34]⟩ : ByteArray).size = 1 := rfl
theorem z_nil : (⟨#[]⟩ : ByteArray).size = 0 := rfl
theorem z_hide : (⟨#[104, 105, 100, 101, 32]⟩ : ByteArray).size = 5 := rfl
theorem z_semn : (⟨#[59, 10]⟩ : ByteArray).size = 2 := rfl
set_option maxHeartbeats 4000000 in
set_option maxRecDepth 100000 in
theorem way_calls (s : FSchema) (hok : SchOk s) (hne : ∀ i, i < s.structs.length → 1 ≤ (rget s.structs i).fields.length) (aS aE : Option Addr) (cS cE : Nat) (a : Option Addr) (n c : Nat) (zs : List Int) (w : World) (h : SchRows w aS aE s) (hr : IsRow .u8 w a n c zs) :
    Calls Tryd.prog 20 #[.agg #[.slice aS s.structs.length cS, .slice aE s.enums.length cE, .int .i64 s.root], .slice a n c] w fun e w' => ∃ x : ByteArray, e = .returned (.string x) ∧ x.size ≤ 200 ∧ Below w.heap.size w w' := by
  obtain ⟨rt, hrt⟩ : ∃ rt, rt = s.root := ⟨_, rfl⟩
  have hr0 := hok.r0
  have hr1 := hok.r1
  rw [← hrt] at hr0 hr1 ⊢
  obtain ⟨r0, rfl⟩ := Int.eq_ofNat_of_zero_le hr0
  have HRT := Lib.hid (show r0 < s.structs.length by omega)
  have hn16 := hok.n16
  have hnm := isRow_cap hr
  have HOK := Lib.hid hok
  have HNE := Lib.hid hne
  obtain ⟨W0, hW0⟩ : ∃ W0, W0 = w.alloc (Obj.cells #[.slice aS s.structs.length cS, .slice aE s.enums.length cE, .int .i64 (r0 : Int)] 32) := ⟨_, rfl⟩
  obtain ⟨rt, hrt2⟩ : ∃ rt, rt = (r0 : Int) := ⟨_, rfl⟩
  rw [← hrt2] at hW0
  have hbW : Below w.heap.size w W0 := by rw [hW0]; exact below1 _ _
  have hS : W0.heap[w.heap.size]? = some (.cells #[.slice aS s.structs.length cS, .slice aE s.enums.length cE, .int .i64 rt] 32 (0, 0)) := by rw [hW0]; exact blk_new _ _
  obtain ⟨S, hSe⟩ : ∃ S, S = w.heap.size := ⟨_, rfl⟩
  rw [← hSe] at hS
  have HLS := Lib.hid (blk_lt hS)
  have S0 : Hid (W0.cell? ⟨S, 0, none⟩ = some (.slice aS s.structs.length cS)) := Lib.hid (by rw [blk_cell hS]; rfl)
  have S1 : Hid (W0.cell? ⟨S, 1, none⟩ = some (.slice aE s.enums.length cE)) := Lib.hid (by rw [blk_cell hS]; rfl)
  have S2 : Hid (W0.cell? ⟨S, 2, none⟩ = some (.int .i64 rt)) := Lib.hid (by rw [blk_cell hS]; rfl)
  have H := Lib.hid (h.below hbW)
  have HBW := Lib.hid hbW
  have HR := Lib.hid (isRow_below hr hbW)
  have HRE := Lib.hid hrt2
  rw [← hrt2]
  clear h hok hrt hbW hS hne hr hr0 hr1
  have hB0 : Below W0.heap.size W0 W0 := Below.refl _ _
  have s0 : W0.cell? ⟨S, 0, none⟩ = some (.slice aS s.structs.length cS) := (hB0.cell (p := ⟨S, 0, none⟩) HLS.out).trans S0.out
  have s1 : W0.cell? ⟨S, 1, none⟩ = some (.slice aE s.enums.length cE) := (hB0.cell (p := ⟨S, 1, none⟩) HLS.out).trans S1.out
  have s2 : W0.cell? ⟨S, 2, none⟩ = some (.int .i64 rt) := (hB0.cell (p := ⟨S, 2, none⟩) HLS.out).trans S2.out
  have lSr : S < W0.heap.size := Nat.lt_of_lt_of_le HLS.out hB0.size
  clear hB0 hrt2
  go_enter Tryd.func20, Tryd.ntmps20
  go_upto_region 4 with (fail)
  rw [← hW0, ← hSe]
  clear hW0 hSe s0 s1 s2 lSr
  go_loopw [5, 6, 7, 8, 9] (fun v5 v6 v7 v8 v9 wr => ∃ (x : ByteArray) (rec i : Nat), v5 = .string x ∧ v6 = .int .i64 (rec : Int) ∧ v7 = .int .i64 (i : Int) ∧ i ≤ 12 ∧ x.size ≤ 10 * i ∧ Hid (rec < s.structs.length) ∧ Hid (Below W0.heap.size W0 wr)) (fun _ _ v7 _ _ _ => 12 - (intOf v7).toNat)
  case atStart => exact ⟨⟨#[]⟩, r0, 0, rfl, by rw [HRE.out], rfl, by omega, by decide, HRT, Lib.hid (Below.refl _ _)⟩
  case round =>
    obtain ⟨x, rec, i, rfl, rfl, rfl, hi, hx, HREC, HB⟩ := hrel
    rename World => wr
    by_cases hgo : i < n ∧ i < 12
    · obtain ⟨g1, g2⟩ := hgo
      have i1 : (i : Int) < (n : Int) := by omega
      have i2 : (i : Int) < 12 := by omega
      have hHB := HB.out
      have s0 : wr.cell? ⟨S, 0, none⟩ = some (.slice aS s.structs.length cS) := (hHB.cell (p := ⟨S, 0, none⟩) HLS.out).trans S0.out
      have s1 : wr.cell? ⟨S, 1, none⟩ = some (.slice aE s.enums.length cE) := (hHB.cell (p := ⟨S, 1, none⟩) HLS.out).trans S1.out
      have s2 : wr.cell? ⟨S, 2, none⟩ = some (.int .i64 rt) := (hHB.cell (p := ⟨S, 2, none⟩) HLS.out).trans S2.out
      have lSr : S < wr.heap.size := Nat.lt_of_lt_of_le HLS.out hHB.size
      clear hHB
      obtain ⟨b1, o1, rfl, hb1, hc1⟩ := isRow_at HR.out (by omega)
      have y0 := cell_kept (hc1 i g1).1 HB.out
      have hwf := bounds_u8 (hc1 i g1).2
      generalize zs.getD i 0 = m at *
      obtain ⟨m, rfl⟩ := Int.eq_ofNat_of_zero_le hwf.1
      have lb1 : b1 < wr.heap.size := Nat.lt_of_lt_of_le hb1 HB.out.size
      obtain ⟨b, o, b', c', rfl, hb, q0, q1, hb', hrow⟩ := (H.out.below HB.out).st rec HREC.out
      have hfo := HOK.out.recs rec HREC.out
      have hn1 := HNE.out rec HREC.out
      obtain ⟨fs, hfs⟩ : ∃ fs, fs = (rget s.structs rec).fields := ⟨_, rfl⟩
      have hmost := hfo.most
      have hfl := hfo.flds
      rw [← hfs] at q1 hb' hrow hn1 hmost hfl
      have hkl : m % fs.length < fs.length := Nat.mod_lt _ hn1
      obtain ⟨k, hk⟩ : ∃ k, k = m % fs.length := ⟨_, rfl⟩
      rw [← hk] at hkl
      have hkm : Int.tmod (m : Int) (fs.length : Int) = (k : Int) := by rw [Int.tmod_eq_emod_of_nonneg (by omega), hk]; rfl
      obtain ⟨f0, f1, f2, f3, f4⟩ := hrow k hkl
      have hfk := hfl _ (fget_mem fs k hkl)
      rw [Nat.zero_add] at f0 f1 f2 f3 f4
      have hb'1 := hb'.1
      have hrI : (rec : Int) < (s.structs.length : Int) := by have := HREC.out; omega
      have hkI : (k : Int) < (fs.length : Int) := by omega
      have hfI : (fs.length : Int) ≤ 16 := by omega
      have hfz : ((fs.length : Int) == 0) = false := by rw [beq_eq_false_iff_ne]; omega
      have hfz2 : (fs.length : Int) ≠ 0 := by omega
      have hmI : (m : Int) ≤ 255 := hwf.2
      have HFK := Lib.hid hfk
      have hsz := hfk.name
      generalize fget fs k = f at *
      clear hfs hn1 hmost hfl hk hrow hc1 hfo hfk hwf hb' hb1
      go_upto_region 6 with (fail)
      (have hX := BelowOf.cell wr; refine wp_region_below_lit (by kernel_rfl) (by kernel_rfl) ?_; (repeat (go_big_quiet_step (fail))); refine wpQuiet_nil ?_); intro wB hw'; obtain ⟨⟨wB', hB'⟩, hw''⟩ := hw'; have hB : Below (World.heap wr).size wr wB := (by rw [hw'']; exact hB'); clear hw'' hB' hX; clear wB'; have hzB := hB.size; obtain ⟨hcB, hfB⟩ := bcell hB
      have HBB := Lib.hid (HB.out.trans (hB.mono HB.out.size))
      have s0 := cell_kept s0 hB
      have s1 := cell_kept s1 hB
      have s2 := cell_kept s2 hB
      have q1 := cell_kept q1 hB
      have f0 := cell_kept f0 hB
      have f1 := cell_kept f1 hB
      have f2 := cell_kept f2 hB
      have f3 := cell_kept f3 hB
      have f4 := cell_kept f4 hB
      have lSr : S < wB.heap.size := Nat.lt_of_lt_of_le lSr hzB
      have hb : b < wB.heap.size := Nat.lt_of_lt_of_le hb hzB
      have hb'1 : b' < wB.heap.size := Nat.lt_of_lt_of_le hb'1 hzB
      have hx2 : x.size ≤ 120 := by omega
      clear hB hcB hfB hzB i1 i2 y0 lb1 hkm hfz hfz2 hmI
      by_cases h13 : f.kind = 13
      · have h13b : (f.kind != 13) = false := by rw [h13]; rfl
        have hst := HFK.out.st h13
        obtain ⟨rf, hrf⟩ := Int.eq_ofNat_of_zero_le hst.1
        have HRF := Lib.hid (show rf < s.structs.length by omega)
        have HBE := Lib.hid (HBB.out.trans ((below1 wB (.cells #[.string f.name, .int .u8 f.kind, .int .i64 f.ref, .int .i64 f.lists, .int .u64 f.df] 79)).mono HBB.out.size))
        have HRE2 := Lib.hid hrf
        by_cases i0 : 0 < i
        · have i0b : (0 : Int) < (i : Int) := by omega
          clear h13 hst hrf
          go_wp2_with fail
          go_roundw
          case rel =>
            refine ⟨_, rf, i + 1, rfl, by rw [HRE2.out], by go_num, by omega, ?_, HRF, HBE⟩
            simp only [ByteArray.size_append, z_dot, z_quo, z_nil, z_hide, z_semn]
            omega
          case measure => simp [intOf]; omega
        · have i0b : (i : Int) ≤ 0 := by omega
          clear h13 hst hrf
          go_wp2_with fail
          go_roundw
          case rel =>
            refine ⟨_, rf, i + 1, rfl, by rw [HRE2.out], by go_num, by omega, ?_, HRF, HBE⟩
            simp only [ByteArray.size_append, z_dot, z_quo, z_nil, z_hide, z_semn]
            omega
          case measure => simp [intOf]; omega
      · have h13b : (f.kind != 13) = true := bne_iff_ne.2 h13
        have HBE := Lib.hid (HBB.out.trans ((below1 wB (.cells #[.string f.name, .int .u8 f.kind, .int .i64 f.ref, .int .i64 f.lists, .int .u64 f.df] 79)).mono HBB.out.size))
        by_cases i0 : 0 < i
        · have i0b : (0 : Int) < (i : Int) := by omega
          clear h13
          go_wp2_with fail
          go_ret
          refine ⟨_, rfl, ?_, HBW.out.trans (HBE.out.mono HBW.out.size)⟩
          simp only [ByteArray.size_append, z_dot, z_quo, z_nil, z_hide, z_semn]
          omega
        · have i0b : (i : Int) ≤ 0 := by omega
          clear h13
          go_wp2_with fail
          go_ret
          refine ⟨_, rfl, ?_, HBW.out.trans (HBE.out.mono HBW.out.size)⟩
          simp only [ByteArray.size_append, z_dot, z_quo, z_nil, z_hide, z_semn]
          omega
    · by_cases g1 : i < n
      · have i1 : (i : Int) < (n : Int) := by omega
        have i2 : decide ((i : Int) < 12) = false := decide_eq_false (fun h => hgo ⟨g1, by omega⟩)
        go_wp2_with fail
        go_ret
        exact ⟨x, rfl, by omega, HBW.out.trans (HB.out.mono HBW.out.size)⟩
      · have i1 : decide ((i : Int) < (n : Int)) = false := decide_eq_false (by omega)
        go_wp2_with fail
        go_ret
        exact ⟨x, rfl, by omega, HBW.out.trans (HB.out.mono HBW.out.size)⟩

end Go.Proofs.YtejpjclbeogajaaDoor

/-
  A policy's text out of ways: a string of a bounded size.
-/
namespace Go.Proofs.YtejpjclbeogajaaDoor
open Go.RowKit
set_option linter.unusedVariables false
set_option linter.unusedSimpArgs false


/-- ways that came in: each a row of bytes -/
def WaysAt (w : World) (a : Option Addr) (n : Nat) : Prop := 0 < n → ∃ b o, a = some ⟨b, o, none⟩ ∧ b < w.heap.size ∧ ∀ i, i < n → ∃ a' n' c' zs, w.cell? ⟨b, o + i, none⟩ = some (.slice a' n' c') ∧ IsRow .u8 w a' n' c' zs
theorem WaysAt.below {w w' : World} {a : Option Addr} {n : Nat} (h : WaysAt w a n) (hb : Below w.heap.size w w') : WaysAt w' a n := by
  intro h0
  obtain ⟨b, o, rfl, hl, hc⟩ := h h0
  refine ⟨b, o, rfl, Nat.lt_of_lt_of_le hl hb.size, fun i hi => ?_⟩
  obtain ⟨a', n', c', zs, h1, h2⟩ := hc i hi
  exact ⟨a', n', c', zs, cell_kept h1 hb, isRow_below h2 hb⟩
set_option maxHeartbeats 4000000 in
set_option maxRecDepth 100000 in
theorem polText_calls (s : FSchema) (hok : SchOk s) (hne : ∀ i, i < s.structs.length → 1 ≤ (rget s.structs i).fields.length) (aS aE : Option Addr) (cS cE : Nat) (a : Option Addr) (n c : Nat) (w : World) (h : SchRows w aS aE s) (hr : WaysAt w a n) (hnm : n ≤ 9223372036854775807) :
    Calls Tryd.prog 9 #[.agg #[.slice aS s.structs.length cS, .slice aE s.enums.length cE, .int .i64 s.root], .slice a n c] w fun e w' => ∃ x : ByteArray, e = .returned (.string x) ∧ x.size ≤ 20000 ∧ Below w.heap.size w w' := by
  obtain ⟨rt, hrt⟩ : ∃ rt, rt = s.root := ⟨_, rfl⟩
  obtain ⟨W0, hW0⟩ : ∃ W0, W0 = w.alloc (Obj.cells #[.slice aS s.structs.length cS, .slice aE s.enums.length cE, .int .i64 rt] 32) := ⟨_, rfl⟩
  have hbW : Below w.heap.size w W0 := by rw [hW0]; exact below1 _ _
  have hS : W0.heap[w.heap.size]? = some (.cells #[.slice aS s.structs.length cS, .slice aE s.enums.length cE, .int .i64 rt] 32 (0, 0)) := by rw [hW0]; exact blk_new _ _
  obtain ⟨S, hSe⟩ : ∃ S, S = w.heap.size := ⟨_, rfl⟩
  rw [← hSe] at hS
  have HLS := Lib.hid (blk_lt hS)
  have S0 : Hid (W0.cell? ⟨S, 0, none⟩ = some (.slice aS s.structs.length cS)) := Lib.hid (by rw [blk_cell hS]; rfl)
  have S1 : Hid (W0.cell? ⟨S, 1, none⟩ = some (.slice aE s.enums.length cE)) := Lib.hid (by rw [blk_cell hS]; rfl)
  have S2 : Hid (W0.cell? ⟨S, 2, none⟩ = some (.int .i64 rt)) := Lib.hid (by rw [blk_cell hS]; rfl)
  have H := Lib.hid (h.below hbW)
  have HR := Lib.hid (hr.below hbW)
  have HBW := Lib.hid hbW
  have HOK := Lib.hid hok
  have HNE := Lib.hid hne
  have HRT := Lib.hid hrt
  rw [← hrt]
  have hn1 : (n : Int) ≤ 9223372036854775807 := by omega
  clear h hr hbW hS hok hne hrt hnm
  go_enter Tryd.func9, Tryd.ntmps9
  go_upto_region 3 with (fail)
  rw [← hW0, ← hSe]
  clear hW0 hSe
  go_loopw [5, 6, 7, 10] (fun v5 v6 v7 v10 wr => ∃ (x : ByteArray) (i : Nat), v5 = .string x ∧ v10 = .int .i64 (i : Int) ∧ i ≤ n ∧ i ≤ 21 ∧ x.size ≤ 210 * i ∧ Hid (Below W0.heap.size W0 wr)) (fun _ _ _ v10 _ => 22 - (intOf v10).toNat)
  case atStart => exact ⟨⟨#[]⟩, 0, rfl, rfl, by omega, by omega, by decide, Lib.hid (Below.refl _ _)⟩
  case round =>
    obtain ⟨x, i, rfl, rfl, hi, hi2, hx, HB⟩ := hrel
    rename World => wr
    by_cases hin : i < n
    · have hiI : (i : Int) < (n : Int) := by omega
      obtain ⟨b, o, rfl, hb, hc⟩ := HR.out (by omega)
      obtain ⟨a', n', c', zs, g0, hrow⟩ := hc i hin
      have g0 := cell_kept g0 HB.out
      have lb : b < wr.heap.size := Nat.lt_of_lt_of_le hb HB.out.size
      have HROW := Lib.hid (isRow_below hrow HB.out)
      clear hc hrow hb
      by_cases h20 : 20 < i
      · have h20b : (20 : Int) < (i : Int) := by omega
        go_wp2_with fail
        go_ret
        exact ⟨x, rfl, by omega, HBW.out.trans (HB.out.mono HBW.out.size)⟩
      · have h20b : (i : Int) ≤ 20 := by omega
        have hHB := HB.out
        have s0 : wr.cell? ⟨S, 0, none⟩ = some (.slice aS s.structs.length cS) := (hHB.cell (p := ⟨S, 0, none⟩) HLS.out).trans S0.out
        have s1 : wr.cell? ⟨S, 1, none⟩ = some (.slice aE s.enums.length cE) := (hHB.cell (p := ⟨S, 1, none⟩) HLS.out).trans S1.out
        have s2 : wr.cell? ⟨S, 2, none⟩ = some (.int .i64 rt) := (hHB.cell (p := ⟨S, 2, none⟩) HLS.out).trans S2.out
        have lSr : S < wr.heap.size := Nat.lt_of_lt_of_le HLS.out hHB.size
        clear hHB
        by_cases hn0 : n' = 0
        · have hn0b : ((n' : Int) == 0) = true := by rw [hn0]; rfl
          obtain ⟨w2, hw2⟩ : ∃ w2, w2 = wr.alloc (Obj.cells #[.int .u8 0] 5) := ⟨_, rfl⟩
          have hb2 : Below wr.heap.size wr w2 := by rw [hw2]; exact below1 _ _
          have bN : w2.heap[wr.heap.size]? = some (.cells #[.int .u8 0] 5 (0, 0)) := by rw [hw2]; exact blk_new _ _
          have hrow1 : IsRow .u8 w2 (some ⟨wr.heap.size, 0, none⟩) 1 1 [0] := by
            refine .inr ⟨_, rfl, Nat.le_refl _, by decide, rfl, fun i hi => ?_, fun n hn => ?_⟩
            · obtain rfl : i = 0 := by simpa using hi
              show w2.cell? ⟨wr.heap.size, 0, none⟩ = _
              rw [blk_cell bN]; rfl
            · obtain rfl := List.mem_singleton.1 hn; rfl
          have HB2 := Lib.hid (HB.out.trans (hb2.mono HB.out.size))
          have hcl := way_calls s HOK.out HNE.out aS aE cS cE _ 1 1 [0] w2 (H.out.below HB2.out) hrow1
          rw [← HRT.out, hw2] at hcl
          have HCL := Lib.hid hcl
          rw [hw2] at HB2
          clear hcl hn0 hrow1 bN hb2 hw2
          go_wp2_with (first | (go_at_call 20; refine HCL.out.mono ?_; rintro e w4 ⟨y, rfl, hy, hB4⟩))
          have HB4 := Lib.hid (HB2.out.trans (hB4.mono HB2.out.size))
          go_roundw
          case rel =>
            refine ⟨_, i + 1, rfl, by go_num, by omega, by omega, ?_, HB4⟩
            simp only [ByteArray.size_append, z_dot, z_quo, z_nil, z_hide, z_semn]
            omega
          case measure => simp [intOf]; omega
        · have hn0b : ((n' : Int) == 0) = false := by rw [beq_eq_false_iff_ne]; omega
          have hcl := way_calls s HOK.out HNE.out aS aE cS cE a' n' c' zs wr (H.out.below HB.out) HROW.out
          rw [← HRT.out] at hcl
          have HCL := Lib.hid hcl
          clear hcl hn0
          go_wp2_with (first | (go_at_call 20; refine HCL.out.mono ?_; rintro e w4 ⟨y, rfl, hy, hB4⟩))
          have HB4 := Lib.hid (HB.out.trans (hB4.mono HB.out.size))
          go_roundw
          case rel =>
            refine ⟨_, i + 1, rfl, by go_num, by omega, by omega, ?_, HB4⟩
            simp only [ByteArray.size_append, z_dot, z_quo, z_nil, z_hide, z_semn]
            omega
          case measure => simp [intOf]; omega
    · have hiI : (n : Int) ≤ (i : Int) := by omega
      go_wp2_with fail
      go_ret
      exact ⟨x, rfl, by omega, HBW.out.trans (HB.out.mono HBW.out.size)⟩

end Go.Proofs.YtejpjclbeogajaaDoor
