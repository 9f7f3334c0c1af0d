/-
  Parts: TextOk, TextW, TextS.
-/
import Derived.Test.YtgoaiokpnifhfaaDoorPkMadeBad
import Derived.Test.YtgoaiokpnifhfaaDoorPkDec
import Derived.Test.YtgoaiokpnifhfaaDoorPkIdl1

/-
  What a made schema is: facts for its text.
-/
namespace Go.Proofs.YtgoaiokpnifhfaaDoor
open Go.RowKit
set_option linter.unusedVariables false
set_option linter.unusedSimpArgs false

structure FldOk (s : FSchema) (f : FField) : Prop where
  name : f.name.size ≤ 7
  k1 : 1 ≤ f.kind
  k13 : f.kind ≤ 13
  l0 : 0 ≤ f.lists
  l3 : f.lists ≤ 3
  d0 : 0 ≤ f.df
  d1 : f.df < 18446744073709551616
  en : f.kind = 10 → 0 ≤ f.ref ∧ f.ref < (s.enums.length : Int) ∧ f.df < ((cget s.enums f.ref.toNat).names.length : Int)
  st : f.kind = 13 → 0 ≤ f.ref ∧ f.ref < (s.structs.length : Int)
structure RecOk (s : FSchema) (r : FRecord) : Prop where
  name1 : 1 ≤ r.name.size
  name : r.name.size ≤ 2
  most : r.fields.length ≤ 16
  flds : ∀ f ∈ r.fields, FldOk s f
structure ChoOk (c : FChoice) : Prop where
  name1 : 1 ≤ c.name.size
  name : c.name.size ≤ 2
  most : c.names.length ≤ 32
  nms : ∀ k, k < c.names.length → (sget c.names k).size ≤ 3
/-- what is known of a schema that a plan makes -/
structure SchOk (s : FSchema) : Prop where
  n1 : 1 ≤ s.structs.length
  n16 : s.structs.length ≤ 16
  e8 : s.enums.length ≤ 8
  r0 : 0 ≤ s.root
  r1 : s.root < (s.structs.length : Int)
  recs : ∀ i, i < s.structs.length → RecOk s (rget s.structs i)
  chos : ∀ i, i < s.enums.length → ChoOk (cget s.enums i)

theorem bytesStr_size (ns : List Int) : (bytesStr ns).size = ns.length := by
  unfold bytesStr
  have h : ∀ (l : List Int) (r : ByteArray), (l.foldl (fun r n => r.push (UInt8.ofNat n.toNat)) r).size = r.size + l.length := by
    intro l
    induction l with
    | nil => intro r; simp
    | cons a l ih => intro r; simp only [List.foldl_cons, ih, ByteArray.size_push, List.length_cons]; omega
  rw [h]; simp
theorem labelOf_size (n : Int) (i : Nat) : (labelOf n i).size ≤ 7 := by
  unfold labelOf
  rw [ByteArray.size_append, bytesStr_size]
  have : (labelHead (n % 10).toNat).size ≤ 6 := by unfold labelHead; split <;> decide
  simp only [List.length_cons, List.length_nil]
  omega
theorem nameOf_size (h : Int) (i : Nat) : (nameOf h i).size = 2 := by
  unfold nameOf
  rw [ByteArray.size_append, bytesStr_size, bytesStr_size]; rfl
theorem valName_size (k : Nat) : (valName k).size = 3 := by
  unfold valName
  rw [ByteArray.size_append, bytesStr_size, bytesStr_size]; rfl
theorem signedOf_bd (n sz : Int) (h0 : 0 ≤ n) (h1 : n < 18446744073709551616) : 0 ≤ signedOf n sz ∧ signedOf n sz < 18446744073709551616 := by
  unfold signedOf
  repeat' split
  all_goals omega
theorem numberOf_bd (nm k n : Int) (hn : 0 < nm) (hn2 : nm ≤ 32) (h0 : 0 ≤ n) (h1 : n < 18446744073709551616) : 0 ≤ numberOf nm k n ∧ numberOf nm k n < 18446744073709551616 ∧ (k = 10 → numberOf nm k n < nm) := by
  have hm0 : 0 ≤ n % nm := Int.emod_nonneg _ (by omega)
  have hm1 : n % nm < nm := Int.emod_lt_of_pos _ hn
  by_cases hk : k = 10
  · subst hk
    have e : numberOf nm 10 n = n % nm := by unfold numberOf; rfl
    rw [e]
    exact ⟨hm0, by omega, fun _ => hm1⟩
  · refine ⟨?_, ?_, fun e => absurd e hk⟩
    · unfold numberOf
      have a1 := (signedOf_bd (n % 256) 1 (by omega) (by omega)).1
      have a2 := (signedOf_bd (n % 65536) 2 (by omega) (by omega)).1
      have a3 := (signedOf_bd (n % 4294967296) 4 (by omega) (by omega)).1
      have a4 := (signedOf_bd n 8 h0 h1).1
      repeat' split
      all_goals first | assumption | omega
    · unfold numberOf
      have a1 := (signedOf_bd (n % 256) 1 (by omega) (by omega)).2
      have a2 := (signedOf_bd (n % 65536) 2 (by omega) (by omega)).2
      have a3 := (signedOf_bd (n % 4294967296) 4 (by omega) (by omega)).2
      have a4 := (signedOf_bd n 8 h0 h1).2
      repeat' split
      all_goals first | assumption | omega
theorem valCount_bd (n : Int) (h : byteOk n) : 1 ≤ valCount n ∧ valCount n ≤ 32 := by
  unfold valCount; have := h.1; omega
theorem iget_mem' (l : List Int) (i : Nat) (h : i < l.length) : iget l i ∈ l := by unfold iget; rw [getElem!_pos l i h]; exact List.getElem_mem h

theorem made_fld_ok (p : PlanD) (hok : planOk p) (he : ∀ n ∈ p.enums, byteOk n) (i k : Nat) (hi : i < p.structs.length) (f : PField) (hf : f.ok) : FldOk (madeP p) (madeField p i k f) := by
  obtain ⟨hk, hl, hr, hn, hd0, hd1⟩ := hf
  have k0 : 1 ≤ kind0 f ∧ kind0 f ≤ 13 := by unfold kind0; omega
  have k1 : 1 ≤ kind1 p f ∧ kind1 p f ≤ 13 := by unfold kind1; split <;> omega
  have k2 : 1 ≤ kind2 p i f ∧ kind2 p i f ≤ 13 := by unfold kind2; split <;> omega
  have hen : (madeP p).enums.length = p.enums.length := by simp [madeP]
  have hst : (madeP p).structs.length = p.structs.length := by simp [madeP]
  have hke : kind2 p i f = 10 → 0 < p.enums.length := fun h => by
    have h1 : kind1 p f = 10 := by
      unfold kind2 at h
      split at h
      · omega
      · exact h
    unfold kind1 at h1
    split at h1
    · omega
    · rename_i hh
      have : ¬ p.enums.length = 0 := fun e => hh ⟨h1, e⟩
      omega
  have href : kind2 p i f = 10 → ref2 p i f = f.ref % (p.enums.length : Int) := fun h => by unfold ref2; rw [if_pos h]
  have hrb : kind2 p i f = 10 → 0 ≤ ref2 p i f ∧ ref2 p i f < (p.enums.length : Int) := fun h => by
    rw [href h]
    have := hke h
    exact ⟨Int.emod_nonneg _ (by omega), Int.emod_lt_of_pos _ (by omega)⟩
  have hvc : kind2 p i f = 10 → valCount (iget p.enums (ref2 p i f).toNat) = (cget (madeP p).enums (ref2 p i f).toNat).names.length := fun h => by
    have hb := hrb h
    rw [madeP, cget_map _ _ _ (by omega)]
    simp [madeChoice, madeNames]
  have hvb : (0 : Int) < (valCount (iget p.enums (ref2 p i f).toNat) : Int) := by unfold valCount; omega
  have hvb2 : ∀ x : Int, (valCount x : Int) ≤ 32 ∧ (0 : Int) < valCount x := fun x => by
    unfold valCount
    have := Int.emod_nonneg x (show (32 : Int) ≠ 0 by decide)
    have := Int.emod_lt_of_pos x (show (0 : Int) < 32 by decide)
    omega
  have hnb := numberOf_bd (valCount (iget p.enums (ref2 p i f).toNat) : Int) (kind2 p i f) f.df hvb (hvb2 _).1 hd0 hd1
  refine ⟨labelOf_size _ _, k2.1, k2.2, ?_, ?_, ?_, ?_, ?_, ?_⟩
  · simp only [madeField]; have := hl.1; omega
  · simp only [madeField]; have := hl.1; omega
  · simp only [madeField]; split
    · exact hnb.1
    · exact Int.le_refl _
  · simp only [madeField]; split
    · exact hnb.2.1
    · decide
  · intro h
    have h' : kind2 p i f = 10 := h
    have hb := hrb h'
    refine ⟨hb.1, by rw [hen]; exact hb.2, ?_⟩
    show (madeField p i k f).df < ((cget (madeP p).enums (ref2 p i f).toNat).names.length : Int)
    rw [← hvc h']
    simp only [madeField]
    split
    · exact hnb.2.2 h'
    · exact hvb
  · intro h
    have h' : kind2 p i f = 13 := h
    rw [hst]
    show 0 ≤ ref2 p i f ∧ ref2 p i f < (p.structs.length : Int)
    have h10 : ¬ kind2 p i f = 10 := by omega
    unfold ref2
    rw [if_neg h10, if_pos h']
    by_cases ht : p.tree = true
    · rw [if_pos ht]
      have hne : i + 1 ≠ p.structs.length := fun e => by
        unfold kind2 at h'
        split at h'
        · omega
        · rename_i hh
          exact hh ⟨h', ht, e⟩
      have hpos : (0 : Int) < (p.structs.length : Int) - i - 1 := by omega
      have a := Int.emod_nonneg f.ref (show (p.structs.length : Int) - i - 1 ≠ 0 by omega)
      have b := Int.emod_lt_of_pos f.ref hpos
      omega
    · rw [if_neg ht]
      have h1 := hok.1
      exact ⟨Int.emod_nonneg _ (by omega), Int.emod_lt_of_pos _ (by omega)⟩

theorem made_sch_ok (p : PlanD) (hok : planOk p) (hroot : byteOk p.root) (he : ∀ n ∈ p.enums, byteOk n) (hf : ∀ l ∈ p.structs, ∀ f ∈ l, f.ok) : SchOk (madeP p) := by
  have hen : (madeP p).enums.length = p.enums.length := by simp [madeP]
  have hst : (madeP p).structs.length = p.structs.length := by simp [madeP]
  have h1 := hok.1
  have hrt : (madeP p).root = p.root % (p.structs.length : Int) := rfl
  refine ⟨by rw [hst]; exact hok.1, by rw [hst]; exact hok.2.1, by rw [hen]; exact hok.2.2.1, ?_, ?_, fun i hi => ?_, fun i hi => ?_⟩
  · rw [hrt]; exact Int.emod_nonneg _ (by omega)
  · rw [hrt, hst]; exact Int.emod_lt_of_pos _ (by omega)
  · rw [hst] at hi
    have hl := hok.2.2.2 _ (psget_mem p.structs i hi)
    have e : rget (madeP p).structs i = madeRecord p i := by rw [madeP, rget_map _ _ _ hi]
    rw [e]
    refine ⟨by rw [madeRecord, nameOf_size]; decide, by rw [madeRecord, nameOf_size]; exact Nat.le_refl _, by simp [madeRecord, madeFields]; omega, fun f hff => ?_⟩
    simp only [madeRecord, madeFields, List.mem_map] at hff
    obtain ⟨k, hk, rfl⟩ := hff
    exact made_fld_ok p hok he i k hi _ (hf _ (psget_mem p.structs i hi) _ (pfget_mem _ k (List.mem_range.1 hk)))
  · rw [hen] at hi
    have e : cget (madeP p).enums i = madeChoice p.enums i := by rw [madeP, cget_map _ _ _ hi]
    rw [e]
    have hv := valCount_bd _ (he _ (iget_mem' p.enums i hi))
    refine ⟨by rw [madeChoice, nameOf_size]; decide, by rw [madeChoice, nameOf_size]; exact Nat.le_refl _, by simp [madeChoice, madeNames]; exact hv.2, fun k hk => ?_⟩
    have hk2 : k < valCount (iget p.enums i) := by simpa [madeChoice, madeNames] using hk
    have : sget (madeChoice p.enums i).names k = valName k := by
      unfold sget
      rw [getElem!_pos _ k hk]
      simp [madeChoice, madeNames]
    rw [this, valName_size]; exact Nat.le_refl _

/-- the fields of a plan that is in memory are bytes -/
theorem plan_flds {w : World} {v : Value} {p : PlanD} (h : PlanAt w v p) : ∀ l ∈ p.structs, ∀ f ∈ l, f.ok := by
  obtain ⟨⟨A, ce, B, cs, rfl, hE, hS⟩, _, _⟩ := h
  intro l hl f hf
  obtain ⟨i, hi, rfl⟩ := List.mem_iff_getElem.1 hl
  obtain ⟨b, o, _, _, hc⟩ := hS (by omega)
  obtain ⟨u, _, A', c', _, hok, _⟩ := hc i hi
  refine hok f ?_
  unfold psget
  rw [getElem!_pos p.structs i hi]
  exact hf

end Go.Proofs.YtgoaiokpnifhfaaDoor

/-
  A made schema's words: types, defaults.
-/
namespace Go.Proofs.YtgoaiokpnifhfaaDoor
open Go.RowKit
set_option linter.unusedVariables false
set_option linter.unusedSimpArgs false

/-- a schema's rows in memory -/
structure SchRows (w : World) (aS aE : Option Addr) (s : FSchema) : Prop where
  st : ∀ i, i < s.structs.length → ∃ b o b' c', aS = some ⟨b, o, none⟩ ∧ b < w.heap.size ∧ w.cell? ⟨b, o + i * 2, none⟩ = some (.string (rget s.structs i).name) ∧ w.cell? ⟨b, o + i * 2 + 1, none⟩ = some (.slice (some ⟨b', 0, none⟩) (rget s.structs i).fields.length c') ∧ b' < w.heap.size ∧ FieldsRow w b' (rget s.structs i).fields
  en : ∀ i, i < s.enums.length → ∃ b o b' c', aE = some ⟨b, o, none⟩ ∧ b < w.heap.size ∧ w.cell? ⟨b, o + i * 2, none⟩ = some (.string (cget s.enums i).name) ∧ w.cell? ⟨b, o + i * 2 + 1, none⟩ = some (.slice (some ⟨b', 0, none⟩) (cget s.enums i).names.length c') ∧ b' < w.heap.size ∧ StrsRow w b' (cget s.enums i).names
theorem SchRows.below {w w' : World} {aS aE : Option Addr} {s : FSchema} (h : SchRows w aS aE s) (hb : Below w.heap.size w w') : SchRows w' aS aE s := by
  refine ⟨fun i hi => ?_, fun i hi => ?_⟩
  · obtain ⟨b, o, b', c', e, h1, h2, h3, h4, h5⟩ := h.st i hi
    exact ⟨b, o, b', c', e, Nat.lt_of_lt_of_le h1 hb.size, cell_kept h2 hb, cell_kept h3 hb, Nat.lt_of_lt_of_le h4 hb.size, FieldsAt.below h5 hb h4⟩
  · obtain ⟨b, o, b', c', e, h1, h2, h3, h4, h5⟩ := h.en i hi
    exact ⟨b, o, b', c', e, Nat.lt_of_lt_of_le h1 hb.size, cell_kept h2 hb, cell_kept h3 hb, Nat.lt_of_lt_of_le h4 hb.size, strs_local _ w w' b' (hb.block b' h4) h5⟩
theorem schRows_of {w : World} {v : Value} {s : FSchema} (h : SchemaAt w v s) : ∃ aS cS aE cE, v = .agg #[.slice aS s.structs.length cS, .slice aE s.enums.length cE, .int .i64 s.root] ∧ SchRows w aS aE s := by
  obtain ⟨vS, vE, rfl, ⟨aS, cS, rfl, h1⟩, ⟨aE, cE, rfl, h2⟩⟩ := h
  refine ⟨aS, cS, aE, cE, rfl, ⟨fun i hi => ?_, fun i hi => ?_⟩⟩
  · obtain ⟨b, o, rfl, hb, hc⟩ := h1 (by omega)
    obtain ⟨b', c', g0, g1, g2, g3⟩ := hc i hi
    exact ⟨b, o, b', c', rfl, hb, g0, g1, g2, g3⟩
  · obtain ⟨b, o, rfl, hb, hc⟩ := h2 (by omega)
    obtain ⟨b', c', g0, g1, g2, g3⟩ := hc i hi
    exact ⟨b, o, b', c', rfl, hb, g0, g1, g2, g3⟩

def kindWord : Nat → ByteArray
  | 0 => ⟨#[]⟩ | 1 => ⟨#[98, 111, 111, 108]⟩ | 2 => ⟨#[105, 56]⟩ | 3 => ⟨#[105, 49, 54]⟩ | 4 => ⟨#[105, 51, 50]⟩ | 5 => ⟨#[105, 54, 52]⟩ | 6 => ⟨#[117, 56]⟩ | 7 => ⟨#[117, 49, 54]⟩ | 8 => ⟨#[117, 51, 50]⟩ | 9 => ⟨#[117, 54, 52]⟩ | 10 => ⟨#[]⟩ | 11 => ⟨#[116, 101, 120, 116]⟩ | _ => ⟨#[100, 97, 116, 97]⟩
theorem kindWord_size (k : Nat) : (kindWord k).size ≤ 4 := by unfold kindWord; split <;> decide
/-- the words of kinds, in a block -/
def kindObj : Obj := .cells #[.string ⟨#[]⟩, .string ⟨#[98, 111, 111, 108]⟩, .string ⟨#[105, 56]⟩, .string ⟨#[105, 49, 54]⟩, .string ⟨#[105, 51, 50]⟩, .string ⟨#[105, 54, 52]⟩, .string ⟨#[117, 56]⟩, .string ⟨#[117, 49, 54]⟩, .string ⟨#[117, 51, 50]⟩, .string ⟨#[117, 54, 52]⟩, .string ⟨#[]⟩, .string ⟨#[116, 101, 120, 116]⟩, .string ⟨#[100, 97, 116, 97]⟩] 9 (0, 0)
theorem kind_cell {w : World} {g : Nat} (h : w.heap[g]? = some kindObj) (k : Nat) (hk : k < 13) : w.cell? ⟨g, k, none⟩ = some (.string (kindWord k)) := by
  rw [blk_cell h]
  have h0 : k = 0 ∨ k = 1 ∨ k = 2 ∨ k = 3 ∨ k = 4 ∨ k = 5 ∨ k = 6 ∨ k = 7 ∨ k = 8 ∨ k = 9 ∨ k = 10 ∨ k = 11 ∨ k = 12 := by omega
  rcases h0 with rfl | rfl | rfl | rfl | rfl | rfl | rfl | rfl | rfl | rfl | rfl | rfl | rfl <;> rfl

theorem ls_size : (⟨#[108, 105, 115, 116, 60]⟩ : ByteArray).size = 5 := rfl
theorem gt_size : (⟨#[62]⟩ : ByteArray).size = 1 := rfl
theorem kind_idx (n : Nat) (h : n < 13) (l : List Value) (hl : l = [Value.string ⟨#[]⟩, Value.string ⟨#[98, 111, 111, 108]⟩, Value.string ⟨#[105, 56]⟩, Value.string ⟨#[105, 49, 54]⟩, Value.string ⟨#[105, 51, 50]⟩, Value.string ⟨#[105, 54, 52]⟩, Value.string ⟨#[117, 56]⟩, Value.string ⟨#[117, 49, 54]⟩, Value.string ⟨#[117, 51, 50]⟩, Value.string ⟨#[117, 54, 52]⟩, Value.string ⟨#[]⟩, Value.string ⟨#[116, 101, 120, 116]⟩, Value.string ⟨#[100, 97, 116, 97]⟩]) (hn : n < l.length) : l[n] = .string (kindWord n) := by
  subst hl
  have h0 : n = 0 ∨ n = 1 ∨ n = 2 ∨ n = 3 ∨ n = 4 ∨ n = 5 ∨ n = 6 ∨ n = 7 ∨ n = 8 ∨ n = 9 ∨ n = 10 ∨ n = 11 ∨ n = 12 := by omega
  rcases h0 with rfl | rfl | rfl | rfl | rfl | rfl | rfl | rfl | rfl | rfl | rfl | rfl | rfl <;> rfl
def wrapN (b : ByteArray) : Nat → ByteArray
  | 0 => b
  | n + 1 => (⟨#[108, 105, 115, 116, 60]⟩ : ByteArray) ++ wrapN b n ++ (⟨#[62]⟩ : ByteArray)
theorem wrapN_size (b : ByteArray) (n : Nat) : (wrapN b n).size = b.size + 6 * n := by
  induction n with
  | zero => rfl
  | succ n ih => rw [wrapN, ByteArray.size_append, ByteArray.size_append, ls_size, gt_size, ih]; omega
/-- a type's word -/
def wordOf (s : FSchema) (kd rf ls : Int) : ByteArray := wrapN (if kd = 10 then (cget s.enums rf.toNat).name else if kd = 13 then (rget s.structs rf.toNat).name else kindWord kd.toNat) ls.toNat
theorem wordOf_size {s : FSchema} (hok : SchOk s) {kd rf ls : Int} (l3 : ls ≤ 3) (he : kd = 10 → 0 ≤ rf ∧ rf < (s.enums.length : Int)) (hst : kd = 13 → 0 ≤ rf ∧ rf < (s.structs.length : Int)) : (wordOf s kd rf ls).size ≤ 22 := by
  unfold wordOf
  rw [wrapN_size]
  have h : (if kd = 10 then (cget s.enums rf.toNat).name else if kd = 13 then (rget s.structs rf.toNat).name else kindWord kd.toNat).size ≤ 4 := by
    split
    · rename_i h; have := (hok.chos rf.toNat (by have := he h; omega)).name; omega
    · split
      · rename_i h; have := (hok.recs rf.toNat (by have := hst h; omega)).name; omega
      · exact kindWord_size _
  omega
set_option maxHeartbeats 2000000 in
set_option maxRecDepth 100000 in
theorem textWord_calls (s : FSchema) (hok : SchOk s) (aS aE : Option Addr) (cS cE : Nat) (rt kd rf ls : Int) (w : World) (h : SchRows w aS aE s) (h1 : 1 ≤ kd) (h13 : kd ≤ 13) (l0 : 0 ≤ ls) (l3 : ls ≤ 3)
    (he : kd = 10 → 0 ≤ rf ∧ rf < (s.enums.length : Int)) (hst : kd = 13 → 0 ≤ rf ∧ rf < (s.structs.length : Int)) :
    Calls Tryd.prog 49 #[.agg #[.slice aS s.structs.length cS, .slice aE s.enums.length cE, .int .i64 rt], .agg #[.int .u8 kd, .int .i64 rf, .int .i64 ls]] w fun e w' => e = .returned (.string (wordOf s kd rf ls)) ∧ Below w.heap.size w w' := by
  obtain ⟨W, hW⟩ : ∃ W, W = ((w.alloc (Obj.cells #[.slice aS s.structs.length cS, .slice aE s.enums.length cE, .int .i64 rt] 42)).alloc (Obj.cells #[.int .u8 kd, .int .i64 rf, .int .i64 ls] 63)).alloc kindObj := ⟨_, rfl⟩
  have hS : W.heap[w.heap.size]? = some (.cells #[.slice aS s.structs.length cS, .slice aE s.enums.length cE, .int .i64 rt] 42 (0, 0)) := by rw [hW]; exact blk_alloc (blk_alloc (blk_new _ _) _) _
  have hTy : W.heap[w.heap.size + 1]? = some (.cells #[.int .u8 kd, .int .i64 rf, .int .i64 ls] 63 (0, 0)) := by
    rw [hW]
    have := blk_new (w.alloc (Obj.cells #[.slice aS s.structs.length cS, .slice aE s.enums.length cE, .int .i64 rt] 42)) (Obj.cells #[.int .u8 kd, .int .i64 rf, .int .i64 ls] 63)
    rw [World.size_alloc] at this
    exact blk_alloc this _
  have hKd : W.heap[w.heap.size + 1 + 1]? = some kindObj := by
    rw [hW]
    have := blk_new ((w.alloc (Obj.cells #[.slice aS s.structs.length cS, .slice aE s.enums.length cE, .int .i64 rt] 42)).alloc (Obj.cells #[.int .u8 kd, .int .i64 rf, .int .i64 ls] 63)) kindObj
    rw [World.size_alloc, World.size_alloc] at this
    exact this
  have hbW : Below w.heap.size w W := by rw [hW]; exact ((below1 _ _).alloc (by simp) _).alloc (by simp; omega) _
  have s0 : W.cell? ⟨w.heap.size, 0, none⟩ = some (.slice aS s.structs.length cS) := by rw [blk_cell hS]; rfl
  have s1 : W.cell? ⟨w.heap.size, 1, none⟩ = some (.slice aE s.enums.length cE) := by rw [blk_cell hS]; rfl
  have t0 : W.cell? ⟨w.heap.size + 1, 0, none⟩ = some (.int .u8 kd) := by rw [blk_cell hTy]; rfl
  have t1 : W.cell? ⟨w.heap.size + 1, 1, none⟩ = some (.int .i64 rf) := by rw [blk_cell hTy]; rfl
  have t2 : W.cell? ⟨w.heap.size + 1, 2, none⟩ = some (.int .i64 ls) := by rw [blk_cell hTy]; rfl
  have lS : w.heap.size < W.heap.size := blk_lt hS
  have lT : w.heap.size + 1 < W.heap.size := blk_lt hTy
  have lK : w.heap.size + 1 + 1 < W.heap.size := blk_lt hKd
  have HBW := Lib.hid hbW
  have H0 := Lib.hid h
  have hwW := hbW.size
  have hn16 := hok.n16
  have he8 := hok.e8
  have HOK := Lib.hid hok
  have HW : Hid (W = _) := Lib.hid hW
  clear h hS hTy hbW hW hok
  by_cases k10 : kd = 10
  · obtain ⟨r0, r1⟩ := he k10
    obtain ⟨n, rfl⟩ : ∃ n : Nat, rf = (n : Int) := ⟨rf.toNat, by omega⟩
    have hn : n < s.enums.length := by omega
    obtain ⟨b, o, b', c', rfl, hb, g0, g1, _, _⟩ := H0.out.en n hn
    have hz := (HOK.out.chos n hn).name
    have HV : Hid (wordOf s 10 (n : Int) ls = wrapN (cget s.enums n).name ls.toNat) := rfl
    generalize (cget s.enums n).name = nm at *
    clear hKd he hst
    subst k10
    have g0' : (((w.alloc (Obj.cells #[.slice aS s.structs.length cS, .slice (some ⟨b, o, none⟩) s.enums.length cE, .int .i64 rt] 42)).alloc (Obj.cells #[.int .u8 10, .int .i64 (n : Int), .int .i64 ls] 63)).alloc kindObj).cell? ⟨b, o + n * 2, none⟩ = some (.string nm) := alloc_keep (alloc_keep (alloc_keep g0))
    unfold kindObj at g0'
    go_enter Tryd.func49, Tryd.ntmps49
    go_wp2_with fail
    go_loopw [6, 7] (fun v6 v7 wr => ∃ (x : ByteArray) (i : Nat), v6 = .string x ∧ v7 = .int .i64 (i : Int) ∧ (i : Int) ≤ ls ∧ x.size ≤ 4 + 6 * i ∧ Hid (x = wrapN nm i) ∧ Below W.heap.size W wr) (fun _ v7 _ => ls.toNat - (intOf v7).toNat)
    case atStart => exact ⟨nm, 0, rfl, rfl, by omega, by omega, rfl, by rw [HW.out]; exact Below.refl _ _⟩
    case round =>
      obtain ⟨x, i, rfl, rfl, hi, hx, hxe, hB⟩ := hrel
      have k2 : wr.cell? ⟨w.heap.size + 1, 2, none⟩ = some (.int .i64 ls) := by rw [hB.cell (p := ⟨w.heap.size + 1, 2, none⟩) (by show w.heap.size + 1 < W.heap.size; exact lT)]; exact t2
      have lTr : w.heap.size + 1 < wr.heap.size := Nat.lt_of_lt_of_le lT hB.size
      have HBr := Lib.hid hB
      clear hB
      by_cases hil : (i : Int) < ls
      · go_wp2_with fail
        go_roundw
        case rel => exact ⟨_, i + 1, rfl, by go_num, by omega, by rw [ByteArray.size_append, ByteArray.size_append, ls_size, gt_size]; omega, by rw [hxe.out]; rfl, HBr.out⟩
        case measure => simp [intOf]; omega
      · have hil2 : i = ls.toNat := by omega
        have hls : ls ≤ (i : Int) := by omega
        go_wp2_with fail
        go_ret
        exact ⟨by rw [HV.out, ← hil2, ← hxe.out]; rfl, HBW.out.trans (HBr.out.mono HBW.out.size)⟩
  · by_cases k13 : kd = 13
    · obtain ⟨r0, r1⟩ := hst k13
      obtain ⟨n, rfl⟩ : ∃ n : Nat, rf = (n : Int) := ⟨rf.toNat, by omega⟩
      have hn : n < s.structs.length := by omega
      obtain ⟨b, o, b', c', rfl, hb, g0, g1, _, _⟩ := H0.out.st n hn
      have hz := (HOK.out.recs n hn).name
      have HV : Hid (wordOf s 13 (n : Int) ls = wrapN (rget s.structs n).name ls.toNat) := rfl
      generalize (rget s.structs n).name = nm at *
      clear hKd he hst
      subst k13
      have g0' : (((w.alloc (Obj.cells #[.slice (some ⟨b, o, none⟩) s.structs.length cS, .slice aE s.enums.length cE, .int .i64 rt] 42)).alloc (Obj.cells #[.int .u8 13, .int .i64 (n : Int), .int .i64 ls] 63)).alloc kindObj).cell? ⟨b, o + n * 2, none⟩ = some (.string nm) := alloc_keep (alloc_keep (alloc_keep g0))
      unfold kindObj at g0'
      go_enter Tryd.func49, Tryd.ntmps49
      go_wp2_with fail
      go_loopw [6, 7] (fun v6 v7 wr => ∃ (x : ByteArray) (i : Nat), v6 = .string x ∧ v7 = .int .i64 (i : Int) ∧ (i : Int) ≤ ls ∧ x.size ≤ 4 + 6 * i ∧ Hid (x = wrapN nm i) ∧ Below W.heap.size W wr) (fun _ v7 _ => ls.toNat - (intOf v7).toNat)
      case atStart => exact ⟨nm, 0, rfl, rfl, by omega, by omega, rfl, by rw [HW.out]; exact Below.refl _ _⟩
      case round =>
        obtain ⟨x, i, rfl, rfl, hi, hx, hxe, hB⟩ := hrel
        have k2 : wr.cell? ⟨w.heap.size + 1, 2, none⟩ = some (.int .i64 ls) := by rw [hB.cell (p := ⟨w.heap.size + 1, 2, none⟩) (by show w.heap.size + 1 < W.heap.size; exact lT)]; exact t2
        have lTr : w.heap.size + 1 < wr.heap.size := Nat.lt_of_lt_of_le lT hB.size
        have HBr := Lib.hid hB
        clear hB
        by_cases hil : (i : Int) < ls
        · go_wp2_with fail
          go_roundw
          case rel => exact ⟨_, i + 1, rfl, by go_num, by omega, by rw [ByteArray.size_append, ByteArray.size_append, ls_size, gt_size]; omega, by rw [hxe.out]; rfl, HBr.out⟩
          case measure => simp [intOf]; omega
        · have hil2 : i = ls.toNat := by omega
          have hls : ls ≤ (i : Int) := by omega
          go_wp2_with fail
          go_ret
          exact ⟨by rw [HV.out, ← hil2, ← hxe.out]; rfl, HBW.out.trans (HBr.out.mono HBW.out.size)⟩
    · obtain ⟨n, rfl⟩ : ∃ n : Nat, kd = (n : Int) := ⟨kd.toNat, by omega⟩
      have hz := kindWord_size n
      have k10b : ((n : Int) == 10) = false := by rw [beq_eq_false_iff_ne]; exact k10
      have k13b : ((n : Int) == 13) = false := by rw [beq_eq_false_iff_ne]; exact k13
      have n13 : n < 13 := by omega
      have HV := Lib.hid (show wordOf s (n : Int) rf ls = wrapN (kindWord n) ls.toNat by rw [wordOf, if_neg k10, if_neg k13]; rfl)
      clear hKd he hst
      go_enter Tryd.func49, Tryd.ntmps49
      go_wp2_with fail
      go_loopw [6, 7] (fun v6 v7 wr => ∃ (x : ByteArray) (i : Nat), v6 = .string x ∧ v7 = .int .i64 (i : Int) ∧ (i : Int) ≤ ls ∧ x.size ≤ 4 + 6 * i ∧ Hid (x = wrapN (kindWord n) i) ∧ Below W.heap.size W wr) (fun _ v7 _ => ls.toNat - (intOf v7).toNat)
      case atStart => exact ⟨(kindWord n), 0, (kind_idx n n13 _ rfl _), rfl, by omega, by omega, rfl, by rw [HW.out]; exact Below.refl _ _⟩
      case round =>
        obtain ⟨x, i, rfl, rfl, hi, hx, hxe, hB⟩ := hrel
        have k2 : wr.cell? ⟨w.heap.size + 1, 2, none⟩ = some (.int .i64 ls) := by rw [hB.cell (p := ⟨w.heap.size + 1, 2, none⟩) (by show w.heap.size + 1 < W.heap.size; exact lT)]; exact t2
        have lTr : w.heap.size + 1 < wr.heap.size := Nat.lt_of_lt_of_le lT hB.size
        have HBr := Lib.hid hB
        clear hB
        by_cases hil : (i : Int) < ls
        · go_wp2_with fail
          go_roundw
          case rel => exact ⟨_, i + 1, rfl, by go_num, by omega, by rw [ByteArray.size_append, ByteArray.size_append, ls_size, gt_size]; omega, by rw [hxe.out]; rfl, HBr.out⟩
          case measure => simp [intOf]; omega
        · have hil2 : i = ls.toNat := by omega
          have hls : ls ≤ (i : Int) := by omega
          go_wp2_with fail
          go_ret
          exact ⟨by rw [HV.out, ← hil2, ← hxe.out]; rfl, HBW.out.trans (HBr.out.mono HBW.out.size)⟩


/-- a number's digits: there is a text for them -/
theorem dec_any (n0 : Nat) (hn0 : n0 < 18446744073709551616) (sg : Bool) : ∃ D : ByteArray, D.size ≤ 21 ∧ ∀ W, Calls Tryd.prog 113 #[.int .u64 n0, .bool sg] W fun e w' => e = .returned (.string D) ∧ Below W.heap.size W w' := by
  cases sg with
  | false => exact ⟨decOf n0, by have := (decOf_ok n0 hn0).len; omega, fun W => decimal_plain n0 hn0 W⟩
  | true =>
    by_cases h : n0 < 9223372036854775808
    · exact ⟨decOf n0, by have := (decOf_ok n0 hn0).len; omega, fun W => decimal_low n0 hn0 h W⟩
    · refine ⟨(⟨#[45]⟩ : ByteArray) ++ decOf (18446744073709551616 - n0), ?_, fun W => decimal_high n0 hn0 (by omega) W⟩
      have h1 := (decOf_ok (18446744073709551616 - n0) (by omega)).len
      have h2 : (⟨#[45]⟩ : ByteArray).size = 1 := rfl
      rw [ByteArray.size_append, h2]; omega
set_option maxHeartbeats 400000 in
set_option maxRecDepth 100000 in
theorem dec13_any (n0 : Nat) (hn0 : n0 < 18446744073709551616) (sg : Bool) : ∃ D : ByteArray, D.size ≤ 21 ∧ ∀ W, Calls Tryd.prog 59 #[.int .u64 n0, .bool sg] W fun e w' => e = .returned (.string D) ∧ Below W.heap.size W w' := by
  obtain ⟨D, hD, hc⟩ := dec_any n0 hn0 sg
  refine ⟨D, hD, fun W => ?_⟩
  clear hn0
  go_enter Tryd.func59, Tryd.ntmps59
  go_wp2_with (first | (go_at_call 113; refine (hc _).mono ?_; rintro e wB ⟨rfl, hB⟩; have hzB := hB.size; (try simp only [World.size_alloc, World.size_setCell, World.size_drew] at hzB); obtain ⟨hcB, hfB⟩ := bcell hB))
  go_ret
  exact ⟨rfl, hB⟩

set_option maxHeartbeats 2000000 in
set_option maxRecDepth 100000 in
theorem def_calls (s : FSchema) (hok : SchOk s) (aS aE : Option Addr) (cS cE : Nat) (rt : Int) (f : FField) (hf : FldOk s f) (w : World) (h : SchRows w aS aE s) :
    Calls Tryd.prog 50 #[.agg #[.slice aS s.structs.length cS, .slice aE s.enums.length cE, .int .i64 rt], .agg #[.string f.name, .int .u8 f.kind, .int .i64 f.ref, .int .i64 f.lists, .int .u64 f.df]] w fun e w' => ∃ x : ByteArray, e = .returned (.string x) ∧ x.size ≤ 21 ∧ Below w.heap.size w w' := by
  obtain ⟨nm, kd, rf, ls, df⟩ := f
  obtain ⟨hnm, h1, h13, l0, l3, d0, d1, hen, _⟩ := hf
  simp only at *
  obtain ⟨n, rfl⟩ : ∃ n : Nat, kd = (n : Int) := ⟨kd.toNat, by omega⟩
  obtain ⟨d, rfl⟩ : ∃ d : Nat, df = (d : Int) := ⟨df.toNat, by omega⟩
  have he8 := hok.e8
  have HOK := Lib.hid hok
  have H := Lib.hid h
  clear h hok
  by_cases k1 : n = 1
  · subst k1
    clear hen
    go_enter Tryd.func50, Tryd.ntmps50
    go_wp2_with fail
    go_ret
    exact ⟨_, rfl, by decide, by (repeat' (first | (with_reducible exact Below.refl _ _) | (with_reducible assumption) | (with_reducible refine Below.alloc ?_ ?_ _) | (with_reducible refine Below.drew ?_) | (with_reducible refine Below.setCell ?_ ?_ _) | (with_reducible refine Below.trans ?_ (Below.mono (by assumption) ?_)) | go_size))⟩
  · have k1b : ((n : Int) == 1) = false := by rw [beq_eq_false_iff_ne]; omega
    by_cases k10 : n = 10
    · subst k10
      obtain ⟨r0, r1, r2⟩ := hen rfl
      obtain ⟨r, rfl⟩ : ∃ r : Nat, rf = (r : Int) := ⟨rf.toNat, by omega⟩
      have hr : r < s.enums.length := by omega
      rw [show ((r : Int)).toNat = r from rfl] at r2
      have hc := HOK.out.chos r hr
      have hk := hc.nms d (by omega)
      have hm := hc.most
      obtain ⟨b, o, b', c', rfl, hb, g0, g1, hb', hrow⟩ := H.out.en r hr
      have g2 := hrow d (by omega)
      generalize sget (cget s.enums r).names d = x at *
      generalize (cget s.enums r).names.length = nl at *
      clear hen hc hrow g0
      obtain ⟨W, hW⟩ : ∃ W, W = (w.alloc (Obj.cells #[.slice aS s.structs.length cS, .slice (some ⟨b, o, none⟩) s.enums.length cE, .int .i64 rt] 42)).alloc (Obj.cells #[.string nm, .int .u8 10, .int .i64 (r : Int), .int .i64 ls, .int .u64 (d : Int)] 89) := ⟨_, rfl⟩
      have hbW : Below w.heap.size w W := by rw [hW]; exact (below1 _ _).alloc (by simp) _
      have hS : W.heap[w.heap.size]? = some (.cells #[.slice aS s.structs.length cS, .slice (some ⟨b, o, none⟩) s.enums.length cE, .int .i64 rt] 42 (0, 0)) := by rw [hW]; exact blk_alloc (blk_new _ _) _
      have hF : W.heap[w.heap.size + 1]? = some (.cells #[.string nm, .int .u8 10, .int .i64 (r : Int), .int .i64 ls, .int .u64 (d : Int)] 89 (0, 0)) := by
        rw [hW]
        have := blk_new (w.alloc (Obj.cells #[.slice aS s.structs.length cS, .slice (some ⟨b, o, none⟩) s.enums.length cE, .int .i64 rt] 42)) (Obj.cells #[.string nm, .int .u8 10, .int .i64 (r : Int), .int .i64 ls, .int .u64 (d : Int)] 89)
        rw [World.size_alloc] at this
        exact this
      have s1 : W.cell? ⟨w.heap.size, 1, none⟩ = some (.slice (some ⟨b, o, none⟩) s.enums.length cE) := by rw [blk_cell hS]; rfl
      have f1 : W.cell? ⟨w.heap.size + 1, 1, none⟩ = some (.int .u8 10) := by rw [blk_cell hF]; rfl
      have f2 : W.cell? ⟨w.heap.size + 1, 2, none⟩ = some (.int .i64 (r : Int)) := by rw [blk_cell hF]; rfl
      have f4 : W.cell? ⟨w.heap.size + 1, 4, none⟩ = some (.int .u64 (d : Int)) := by rw [blk_cell hF]; rfl
      have lS := blk_lt hS
      have lF := blk_lt hF
      clear hS hF
      have g1' := cell_kept g1 hbW
      have g2' := cell_kept g2 hbW
      have hbs := hbW.size
      have HBW := Lib.hid hbW
      clear g1 g2 hbW
      go_enter Tryd.func50, Tryd.ntmps50
      go_wp2_with fail
      rw [← hW]
      clear hW
      go_quiet (fail)
      go_wp2_with fail
      go_ret
      have hB := HBW.out
      exact ⟨x, rfl, by omega, by (repeat' (first | (with_reducible exact Below.refl _ _) | (with_reducible assumption) | (with_reducible refine below_drewN ?_ _) | (with_reducible refine Below.alloc ?_ ?_ _) | (with_reducible refine Below.drew ?_) | (with_reducible refine Below.setCell ?_ ?_ _) | (with_reducible refine Below.trans ?_ (Below.mono (by assumption) ?_)) | go_size))⟩
    · have k10b : ((n : Int) == 10) = false := by rw [beq_eq_false_iff_ne]; omega
      obtain ⟨D, hD, hcD⟩ := dec13_any d (by omega) (decide (2 ≤ (n : Int)) && decide ((n : Int) ≤ 5))
      have hcS := fun W => refSign_calls (n : Int) W
      obtain ⟨W, hW⟩ : ∃ W, W = (w.alloc (Obj.cells #[.slice aS s.structs.length cS, .slice aE s.enums.length cE, .int .i64 rt] 42)).alloc (Obj.cells #[.string nm, .int .u8 (n : Int), .int .i64 rf, .int .i64 ls, .int .u64 (d : Int)] 89) := ⟨_, rfl⟩
      have hbW : Below w.heap.size w W := by rw [hW]; exact (below1 _ _).alloc (by simp) _
      have hS : W.heap[w.heap.size]? = some (.cells #[.slice aS s.structs.length cS, .slice aE s.enums.length cE, .int .i64 rt] 42 (0, 0)) := by rw [hW]; exact blk_alloc (blk_new _ _) _
      have hF : W.heap[w.heap.size + 1]? = some (.cells #[.string nm, .int .u8 (n : Int), .int .i64 rf, .int .i64 ls, .int .u64 (d : Int)] 89 (0, 0)) := by
        rw [hW]
        have := blk_new (w.alloc (Obj.cells #[.slice aS s.structs.length cS, .slice aE s.enums.length cE, .int .i64 rt] 42)) (Obj.cells #[.string nm, .int .u8 (n : Int), .int .i64 rf, .int .i64 ls, .int .u64 (d : Int)] 89)
        rw [World.size_alloc] at this
        exact this
      have s1 : W.cell? ⟨w.heap.size, 1, none⟩ = some (.slice aE s.enums.length cE) := by rw [blk_cell hS]; rfl
      have f1 : W.cell? ⟨w.heap.size + 1, 1, none⟩ = some (.int .u8 (n : Int)) := by rw [blk_cell hF]; rfl
      have f2 : W.cell? ⟨w.heap.size + 1, 2, none⟩ = some (.int .i64 rf) := by rw [blk_cell hF]; rfl
      have f4 : W.cell? ⟨w.heap.size + 1, 4, none⟩ = some (.int .u64 (d : Int)) := by rw [blk_cell hF]; rfl
      have lS := blk_lt hS
      have lF := blk_lt hF
      clear hS hF
      have HBW := Lib.hid hbW
      clear hen hbW
      go_enter Tryd.func50, Tryd.ntmps50
      go_wp2_with fail
      rw [← hW]
      clear hW
      (have hX := BelowOf.cell W; refine wp_region_below_lit (by kernel_rfl) (by kernel_rfl) ?_; (repeat (go_big_quiet_step ((first | (go_at_call 103; exact quietS (hcS _)) | (go_at_call 59; exact quietB (hcD _)))))); refine wpQuiet_nil ?_); intro wB hw'; obtain ⟨⟨wB', hB'⟩, hw''⟩ := hw'; have hB : Below (World.heap W).size W wB := (by rw [hw'']; exact hB'); clear hw'' hB' hX; clear wB'; have hzB := hB.size; obtain ⟨hcB, hfB⟩ := bcell hB
      go_wp2_with fail
      go_ret
      have hB' := HBW.out
      exact ⟨D, rfl, hD, hB'.trans (hB.mono hB'.size)⟩

end Go.Proofs.YtgoaiokpnifhfaaDoor

/-
  A made schema's text.
-/
namespace Go.Proofs.YtgoaiokpnifhfaaDoor
open Go.RowKit
set_option linter.unusedVariables false
set_option linter.unusedSimpArgs false

/-- a callee that needs to know that it comes behind a world -/
theorem quietBB {P : Program} {f : FuncId} {args : Array Value} {w : World} {X : BelowOf w} {v : Value}
    (h : ∀ W', Below w.heap.size w W' → Calls P f args W' fun e w' => e = .returned v ∧ Below W'.heap.size W' w') : Calls P f args X.val fun e w'' => e = .returned v ∧ ∃ Y : BelowOf w, w'' = Y.val := quietB (h X.val X.ok)

theorem z_enum : (⟨#[101, 110, 117, 109, 32]⟩ : ByteArray).size = 5 := rfl
theorem z_open : (⟨#[32, 123]⟩ : ByteArray).size = 2 := rfl
theorem z_comma : (⟨#[44]⟩ : ByteArray).size = 1 := rfl
theorem z_close : (⟨#[125, 10]⟩ : ByteArray).size = 2 := rfl
theorem z_struct : (⟨#[115, 116, 114, 117, 99, 116, 32]⟩ : ByteArray).size = 7 := rfl
theorem z_open2 : (⟨#[32, 123, 10]⟩ : ByteArray).size = 3 := rfl
theorem z_q : (⟨#[34]⟩ : ByteArray).size = 1 := rfl
theorem z_qc : (⟨#[34, 58, 32]⟩ : ByteArray).size = 3 := rfl
theorem z_eq : (⟨#[32, 61, 32]⟩ : ByteArray).size = 3 := rfl
theorem z_semi : (⟨#[59, 10]⟩ : ByteArray).size = 2 := rfl
theorem z_root : (⟨#[114, 111, 111, 116, 32]⟩ : ByteArray).size = 5 := rfl

set_option maxHeartbeats 4000000 in
set_option maxRecDepth 100000 in
theorem text_calls (s : FSchema) (hok : SchOk s) (aS aE : Option Addr) (cS cE : Nat) (w : World) (h : SchRows w aS aE s) :
    Calls Tryd.prog 16 #[.agg #[.slice aS s.structs.length cS, .slice aE s.enums.length cE, .int .i64 s.root]] w fun e w' => ∃ x : ByteArray, e = .returned (.string x) ∧ 1 ≤ x.size ∧ x.size ≤ 20000 ∧ Below w.heap.size w w' := by
  obtain ⟨rt, hrt⟩ : ∃ rt, rt = s.root := ⟨_, rfl⟩
  have hr0 := hok.r0
  have hr1 := hok.r1
  rw [← hrt] at hr0 hr1 ⊢
  have hn16 := hok.n16
  have he8 := hok.e8
  have HOK := Lib.hid hok
  obtain ⟨W0, hW0⟩ : ∃ W0, W0 = w.alloc (Obj.cells #[.slice aS s.structs.length cS, .slice aE s.enums.length cE, .int .i64 rt] 42) := ⟨_, rfl⟩
  have hbW : Below w.heap.size w W0 := by rw [hW0]; exact below1 _ _
  have hS : W0.heap[w.heap.size]? = some (.cells #[.slice aS s.structs.length cS, .slice aE s.enums.length cE, .int .i64 rt] 42 (0, 0)) := by rw [hW0]; exact blk_new _ _
  have lS0 := blk_lt hS
  have S0 : Hid (W0.cell? ⟨w.heap.size, 0, none⟩ = some (.slice aS s.structs.length cS)) := Lib.hid (by rw [blk_cell hS]; rfl)
  have S1 : Hid (W0.cell? ⟨w.heap.size, 1, none⟩ = some (.slice aE s.enums.length cE)) := Lib.hid (by rw [blk_cell hS]; rfl)
  have S2 : Hid (W0.cell? ⟨w.heap.size, 2, none⟩ = some (.int .i64 rt)) := Lib.hid (by rw [blk_cell hS]; rfl)
  have H := Lib.hid (h.below hbW)
  have HBW := Lib.hid hbW
  clear h hok hrt hbW hS
  go_enter Tryd.func16, Tryd.ntmps16
  go_wp2_with fail
  rw [← hW0]
  clear hW0
  go_loopw [3, 4] (fun v3 v4 wr => ∃ (x : ByteArray) (i : Nat), v3 = .string x ∧ v4 = .int .i64 (i : Int) ∧ i ≤ s.enums.length ∧ x.size ≤ 150 * i ∧ Below W0.heap.size W0 wr) (fun _ v4 _ => s.enums.length - (intOf v4).toNat)
  case atStart => exact ⟨_, 0, rfl, rfl, by omega, by decide, Below.refl _ _⟩
  case round =>
    obtain ⟨x, i, rfl, rfl, hi, hx, hB⟩ := hrel
    have s0 : wr.cell? ⟨w.heap.size, 0, none⟩ = _ := (hB.cell (p := ⟨w.heap.size, 0, none⟩) (by show w.heap.size < W0.heap.size; exact lS0)).trans S0.out
    have s1 : wr.cell? ⟨w.heap.size, 1, none⟩ = _ := (hB.cell (p := ⟨w.heap.size, 1, none⟩) (by show w.heap.size < W0.heap.size; exact lS0)).trans S1.out
    have s2 : wr.cell? ⟨w.heap.size, 2, none⟩ = _ := (hB.cell (p := ⟨w.heap.size, 2, none⟩) (by show w.heap.size < W0.heap.size; exact lS0)).trans S2.out
    have lSr : w.heap.size < wr.heap.size := Nat.lt_of_lt_of_le lS0 hB.size
    have HB := Lib.hid hB
    have H' := Lib.hid (H.out.below hB)
    clear hB
    by_cases hin : i < s.enums.length
    · obtain ⟨b, o, b', c', rfl, hb, g0, g1, hb', hrow⟩ := H'.out.en i hin
      have hc := HOK.out.chos i hin
      have hnz := hc.name
      have hnl := hc.most
      have HC := Lib.hid (And.intro hrow hc.nms)
      have hiI : (i : Int) < (s.enums.length : Int) := by omega
      clear hc hrow
      generalize (cget s.enums i).name = nm at *
      generalize (cget s.enums i).names = ns at *
      go_wp2_with fail
      go_loopw [3, 5] (fun v3 v5 wr2 => ∃ (y : ByteArray) (k : Nat), v3 = .string y ∧ v5 = .int .i64 (k : Int) ∧ k ≤ ns.length ∧ y.size ≤ 150 * i + 9 + 4 * k ∧ wr2 = wr) (fun _ v5 _ => ns.length - (intOf v5).toNat)
      case atStart =>
        refine ⟨_, 0, rfl, rfl, by omega, ?_, rfl⟩
        simp only [ByteArray.size_append, z_enum, z_open, z_comma, z_close, z_struct, z_open2, z_q, z_qc, z_eq, z_semi, z_root]
        omega
      case round =>
        obtain ⟨y, k, rfl, rfl, hk, hy, rfl⟩ := hrel
        by_cases hkn : k < ns.length
        · have g2 := HC.out.1 k hkn
          have hz := HC.out.2 k hkn
          generalize sget ns k = z at *
          have hkI : (k : Int) < (ns.length : Int) := by omega
          go_wp2_with fail
          go_roundw
          case rel =>
            refine ⟨_, k + 1, rfl, by go_num, by omega, ?_, trivial⟩
            simp only [ByteArray.size_append, z_enum, z_open, z_comma, z_close, z_struct, z_open2, z_q, z_qc, z_eq, z_semi, z_root]
            omega
          case measure => simp [intOf]; omega
        · have hkI : (ns.length : Int) ≤ (k : Int) := by omega
          go_wp2_with fail
          go_roundw
          case rel =>
            refine ⟨_, i + 1, rfl, by go_num, by omega, ?_, HB.out⟩
            simp only [ByteArray.size_append, z_enum, z_open, z_comma, z_close, z_struct, z_open2, z_q, z_qc, z_eq, z_semi, z_root]
            omega
          case measure => simp [intOf]; omega
    · have hiI : (s.enums.length : Int) ≤ (i : Int) := by omega
      have hx2 : x.size ≤ 1200 := by omega
      go_wp2_with fail
      go_loopw [3, 6] (fun v3 v6 wr => ∃ (x : ByteArray) (i : Nat), v3 = .string x ∧ v6 = .int .i64 (i : Int) ∧ i ≤ s.structs.length ∧ x.size ≤ 1200 + 1060 * i ∧ Below W0.heap.size W0 wr) (fun _ v6 _ => s.structs.length - (intOf v6).toNat)
      case atStart => exact ⟨_, 0, rfl, rfl, by omega, by omega, HB.out⟩
      case round =>
        clear s0 s1 s2 lSr hin hiI hx2 hx hi HB H'
        obtain ⟨x, i, rfl, rfl, hi, hx, hB⟩ := hrel
        rename World => wa
        have s0 : wa.cell? ⟨w.heap.size, 0, none⟩ = _ := (hB.cell (p := ⟨w.heap.size, 0, none⟩) (by show w.heap.size < W0.heap.size; exact lS0)).trans S0.out
        have s1 : wa.cell? ⟨w.heap.size, 1, none⟩ = _ := (hB.cell (p := ⟨w.heap.size, 1, none⟩) (by show w.heap.size < W0.heap.size; exact lS0)).trans S1.out
        have s2 : wa.cell? ⟨w.heap.size, 2, none⟩ = _ := (hB.cell (p := ⟨w.heap.size, 2, none⟩) (by show w.heap.size < W0.heap.size; exact lS0)).trans S2.out
        have lSr : w.heap.size < wa.heap.size := Nat.lt_of_lt_of_le lS0 hB.size
        have HB := Lib.hid hB
        have H' := Lib.hid (H.out.below hB)
        clear hB
        by_cases hin : i < s.structs.length
        · obtain ⟨b, o, b', c', rfl, hb, g0, g1, hb', hrow⟩ := H'.out.st i hin
          have hc := HOK.out.recs i hin
          have hnz := hc.name
          have hnl := hc.most
          have HC := Lib.hid (And.intro hrow hc.flds)
          have hiI : (i : Int) < (s.structs.length : Int) := by omega
          clear hc hrow
          generalize (rget s.structs i).name = nm at *
          generalize (rget s.structs i).fields = fs at *
          go_wp2_with fail
          go_loopw [3, 7] (fun v3 v7 wr2 => ∃ (y : ByteArray) (k : Nat), v3 = .string y ∧ v7 = .int .i64 (k : Int) ∧ k ≤ fs.length ∧ y.size ≤ 1200 + 1060 * i + 12 + 64 * k ∧ Below wa.heap.size wa wr2) (fun _ v7 _ => fs.length - (intOf v7).toNat)
          case atStart =>
            refine ⟨_, 0, rfl, rfl, by omega, ?_, Below.refl _ _⟩
            simp only [ByteArray.size_append, z_enum, z_open, z_comma, z_close, z_struct, z_open2, z_q, z_qc, z_eq, z_semi, z_root]
            omega
          case round =>
            obtain ⟨y, k, rfl, rfl, hk, hy, hB2⟩ := hrel
            rename World => wc
            clear s0 s1 s2 lSr
            have hBB := HB.out.trans (hB2.mono HB.out.size)
            have s0 : wc.cell? ⟨w.heap.size, 0, none⟩ = _ := (hBB.cell (p := ⟨w.heap.size, 0, none⟩) (by show w.heap.size < W0.heap.size; exact lS0)).trans S0.out
            have s1 : wc.cell? ⟨w.heap.size, 1, none⟩ = _ := (hBB.cell (p := ⟨w.heap.size, 1, none⟩) (by show w.heap.size < W0.heap.size; exact lS0)).trans S1.out
            have s2 : wc.cell? ⟨w.heap.size, 2, none⟩ = _ := (hBB.cell (p := ⟨w.heap.size, 2, none⟩) (by show w.heap.size < W0.heap.size; exact lS0)).trans S2.out
            have lSr : w.heap.size < wc.heap.size := Nat.lt_of_lt_of_le lS0 hBB.size
            have g1' := cell_kept g1 hB2
            have lb' : b < wc.heap.size := Nat.lt_of_lt_of_le hb hB2.size
            have lbb : b' < wc.heap.size := Nat.lt_of_lt_of_le hb' hB2.size
            have HF := Lib.hid (FieldsAt.below HC.out.1 hB2 hb')
            have HBB := Lib.hid hBB
            have HBc := Lib.hid hB2
            have HRW := Lib.hid (H.out.below hBB)
            clear hBB hB2
            by_cases hkn : k < fs.length
            · have hfo := HC.out.2 _ (fget_mem fs k hkn)
              obtain ⟨q0, q1, q2, q3, q4⟩ := HF.out k hkn
              generalize fget fs k = f at *
              have hkI : (k : Int) < (fs.length : Int) := by omega
              have HFO := Lib.hid hfo
              have hfz := hfo.name
              have hwz := wordOf_size HOK.out (kd := f.kind) (rf := f.ref) hfo.l3 (fun e => by have := hfo.en e; exact ⟨this.1, this.2.1⟩) hfo.st
              have hcw : ∀ W', SchRows W' (some ⟨b, o, none⟩) aE s → _ := fun W' hr => textWord_calls s HOK.out (some ⟨b, o, none⟩) aE cS cE rt f.kind f.ref f.lists W' hr hfo.k1 hfo.k13 hfo.l0 hfo.l3 (fun e => by have := hfo.en e; exact ⟨this.1, this.2.1⟩) hfo.st
              rw [Nat.zero_add] at q0 q1 q2 q3 q4
              obtain ⟨wd, hwd⟩ : ∃ x, wordOf s f.kind f.ref f.lists = x := ⟨_, rfl⟩
              rw [hwd] at hwz hcw
              obtain ⟨F, hF⟩ : ∃ F, F = wc.heap.size := ⟨_, rfl⟩
              obtain ⟨wF, hwF⟩ : ∃ wF, wF = wc.alloc (Obj.cells #[.string f.name, .int .u8 f.kind, .int .i64 f.ref, .int .i64 f.lists, .int .u64 f.df] 89) := ⟨_, rfl⟩
              have hFB : wF.heap[F]? = some (.cells #[.string f.name, .int .u8 f.kind, .int .i64 f.ref, .int .i64 f.lists, .int .u64 f.df] 89 (0, 0)) := by rw [hwF, hF]; exact blk_new _ _
              have hbF : Below wc.heap.size wc wF := by rw [hwF]; exact below1 _ _
              have hcq : ∀ W', Below wF.heap.size wF W' → _ := fun W' hb => hcw W' ((HRW.out.below hbF).below hb)
              have s0' := cell_kept s0 hbF
              have s1' := cell_kept s1 hbF
              have s2' := cell_kept s2 hbF
              have lS' : w.heap.size < wF.heap.size := Nat.lt_of_lt_of_le lSr hbF.size
              have f0 : wF.cell? ⟨F, 0, none⟩ = _ := (blk_cell hFB 0).trans rfl
              have f1 : wF.cell? ⟨F, 1, none⟩ = _ := (blk_cell hFB 1).trans rfl
              have f2 : wF.cell? ⟨F, 2, none⟩ = _ := (blk_cell hFB 2).trans rfl
              have f3 : wF.cell? ⟨F, 3, none⟩ = _ := (blk_cell hFB 3).trans rfl
              have f4 : wF.cell? ⟨F, 4, none⟩ = _ := (blk_cell hFB 4).trans rfl
              have lF := blk_lt hFB
              have HFB := Lib.hid hFB
              have HBF := Lib.hid (HBB.out.trans (hbF.mono HBB.out.size))
              have HRF := Lib.hid (HRW.out.below hbF)
              clear hfo hwd hcw hFB
              go_wp2_with fail
              rw [← hwF, ← hF]
              clear hwF hF
              (have hX := BelowOf.cell wF; refine wp_region_below_lit (by kernel_rfl) (by kernel_rfl) ?_; (repeat (go_big_quiet_step ((go_at_call 49; exact quietBB hcq)))); refine wpQuiet_nil ?_); intro wB hw'; obtain ⟨⟨wB', hB'⟩, hw''⟩ := hw'; have hB : Below (World.heap wF).size wF wB := (by rw [hw'']; exact hB'); clear hw'' hB' hX; clear wB'; have hzB := hB.size; obtain ⟨hcB, hfB⟩ := bcell hB
              have hBA : Below wa.heap.size wa wB := HBc.out.trans ((hbF.trans (hB.mono hbF.size)).mono HBc.out.size)
              by_cases hd : f.df = 0
              · have bd : (f.df != 0) = false := by rw [bne_eq_false_iff_eq]; exact hd
                clear hd
                go_wp2_with fail
                go_roundw
                case rel =>
                  refine ⟨_, k + 1, rfl, by go_num, by omega, ?_, hBA⟩
                  simp only [ByteArray.size_append, z_enum, z_open, z_comma, z_close, z_struct, z_open2, z_q, z_qc, z_eq, z_semi, z_root]
                  omega
                case measure => simp [intOf]; omega
              · have bd : (f.df != 0) = true := by rw [bne_iff_ne]; exact hd
                clear hd
                go_wp2_with fail
                refine (def_calls s HOK.out (some ⟨b, o, none⟩) aE cS cE rt f HFO.out _ (HRF.out.below hB)).mono ?_
                rintro e w3 ⟨dx, rfl, hdx, hB3⟩
                go_wp2_with fail
                go_roundw
                case rel =>
                  refine ⟨_, k + 1, rfl, by go_num, by omega, ?_, hBA.trans (hB3.mono hBA.size)⟩
                  simp only [ByteArray.size_append, z_enum, z_open, z_comma, z_close, z_struct, z_open2, z_q, z_qc, z_eq, z_semi, z_root]
                  omega
                case measure => simp [intOf]; omega
            · have hkI : (fs.length : Int) ≤ (k : Int) := by omega
              go_wp2_with fail
              go_roundw
              case rel =>
                refine ⟨_, i + 1, rfl, by go_num, by omega, ?_, HBB.out⟩
                simp only [ByteArray.size_append, z_enum, z_open, z_comma, z_close, z_struct, z_open2, z_q, z_qc, z_eq, z_semi, z_root]
                omega
              case measure => simp [intOf]; omega
        · have hiI : (s.structs.length : Int) ≤ (i : Int) := by omega
          have hx2 : x.size ≤ 1200 + 16960 := by omega
          obtain ⟨r, rfl⟩ : ∃ r : Nat, rt = (r : Int) := ⟨rt.toNat, by omega⟩
          have hrn : r < s.structs.length := by omega
          obtain ⟨b, o, b', c', rfl, hb, g0, g1, hb', hrow⟩ := H'.out.st r hrn
          have hnz := (HOK.out.recs r hrn).name
          generalize (rget s.structs r).name = nm at *
          clear hrow
          go_wp2_with fail
          go_ret
          refine ⟨_, rfl, ?_, ?_, HBW.out.trans (HB.out.mono HBW.out.size)⟩
          all_goals
            simp only [ByteArray.size_append, z_enum, z_open, z_comma, z_close, z_struct, z_open2, z_q, z_qc, z_eq, z_semi, z_root]
            omega

end Go.Proofs.YtgoaiokpnifhfaaDoor
