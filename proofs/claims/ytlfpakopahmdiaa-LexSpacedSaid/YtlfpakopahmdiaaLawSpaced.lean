/-
  LexSpaced.
-/
import Derived.Test.YtlfpakopahmdiaaLawPlaces
import Derived.Test.YtlfpakopahmdiaaAgain
namespace Go.Proofs.Ytlfpakopahmdiaa
open Go.RowKit
set_option linter.unusedVariables false
set_option linter.unusedSimpArgs false

/-- what is told of a slice of integers that came in -/
def IsRow (k : IntKind) (w : World) (a : Option Addr) (len cap : Nat) (zs : List Int) : Prop :=
  (a = none ∧ len = 0 ∧ cap = 0 ∧ zs = []) ∨
  ∃ x, a = some x ∧ len ≤ cap ∧ cap ≤ maxLen ∧ zs.length = cap ∧ (∀ i, i < zs.length → w.cell? (x.add i) = some (.int k (zs.getD i 0))) ∧ ∀ n ∈ zs, (Lit.int k n).wf = true

theorem sgC_no47 : hasSign sgC 47 = false := by decide +kernel
theorem sgC_noblank : ∀ j, j < sgC.size → isBlank (bt sgC j) = false := by decide +kernel
theorem fill_size (g : Nat) : (fillOf g).size ≤ 8 := (fill_first g).2.2

theorem twin_size (s sg : ByteArray) (gp : Nat → Nat) : ∀ (n i : Nat) (l : List Tok) (j : Nat), i ≤ s.size → toksF s sg n i = .ok l → (twinOf gp l j).size ≤ 8 * l.length + (s.size - i) := by
  intro n
  induction n with
  | zero => intro i l j hi h; simp [toksF] at h
  | succ n ih =>
    intro i l j hi h
    have hb := behind_bd s i hi
    cases ho : oneB s sg (behind s i) with
    | none => rw [toksF_bad s sg n i ho] at h; cases h
    | some r =>
      obtain ⟨k, t, e⟩ := r
      have hs := one_shown s sg _ hb.2 k t e ho
      have hf := fill_size (gp j)
      by_cases hk : k = 0
      · subst hk
        rw [toksF_end s sg n i t e ho] at h
        cases h
        simp only [twinOf]
        rw [ByteArray.size_append, ByteArray.size_append]
        have h1 := hs.2.1
        have h2 := hs.2.2.1
        have h3 := hs.2.2.2.1 rfl
        have h4 : (ByteArray.empty).size = 0 := rfl
        simp only [List.length_cons, List.length_nil]
        omega
      · simp only [toksF, ho] at h
        rw [if_neg hk] at h
        cases hr : toksF s sg n e with
        | error x => rw [hr] at h; cases h
        | ok l2 =>
          rw [hr] at h
          cases h
          have g := ih e l2 (j + 1) hs.2.2.1 hr
          simp only [twinOf]
          rw [ByteArray.size_append, ByteArray.size_append]
          have h1 := hs.2.1
          have h2 := hs.2.2.1
          simp only [List.length_cons]
          omega

/-- the gap that stands ahead of a token -/
def gapAt (len : Nat) (zs : List Int) (k : Nat) : Int := if len = 0 then 0 else zs.getD (k % len) 0
def gpOf (len : Nat) (zs : List Int) (k : Nat) : Nat := (gapAt len zs k % 5).toNat

theorem row_cell {w w' : World} {x : Addr} {i : Nat} {v : Value} (h : w.cell? (x.add i) = some v) (hb : Below w.heap.size w w') : w'.cell? (x.add i) = some v := by
  have hg : (x.add i).block < w.heap.size := by
    by_cases hl : (x.add i).block < w.heap.size
    · exact hl
    · rw [World.cell?] at h
      simp [Array.getElem?_eq_none (Nat.not_lt.1 hl)] at h
  exact (hb.cell hg).trans h

/-- the fills in memory -/
def FillsAt (w : World) (b : Nat) : Prop := ∀ r, r < 5 → w.cell? ⟨b, r, none⟩ = some (.string (fillOf r))
theorem fillsAt_below {w w' : World} {b : Nat} (h : FillsAt w b) (hb : Below w.heap.size w w') : FillsAt w' b := fun r hr => by
  have h1 := h r hr
  have hg : b < w.heap.size := by
    by_cases hl : b < w.heap.size
    · exact hl
    · rw [World.cell?] at h1
      simp [Array.getElem?_eq_none (Nat.not_lt.1 hl)] at h1
  exact (hb.cell (p := ⟨b, r, none⟩) hg).trans h1

/-- while the twin is written -/
structure SpInv (w : World) (g Fb : Nat) (l : List Tok) (gp : Nat → Nat) (k : Nat) (acc : ByteArray) (wr : World) : Prop where
  twin : acc ++ twinOf gp (l.drop k) k = twinOf gp l 0
  toks : ToksAt wr g l
  fills : FillsAt wr Fb
  below : Below w.heap.size w wr

theorem SpInv.step {w : World} {g Fb : Nat} {l : List Tok} {gp : Nat → Nat} {k : Nat} {acc : ByteArray} {wr : World} (h : SpInv w g Fb l gp k acc wr) {t : Tok} (hdr : l.drop k = t :: l.drop (k + 1)) {F S : ByteArray} {r : Nat} (hF : F = fillOf r) (hr : r = gp k) (hS : shown t.kind t.text = S) (o : Obj) :
    SpInv w g Fb l gp (k + 1) (acc ++ F ++ S) (wr.alloc o) := by
  have hb1 : Below wr.heap.size wr (wr.alloc o) := below1 _ _
  refine ⟨?_, toksAt_below h.toks hb1, fillsAt_below h.fills hb1, h.below.trans (hb1.mono h.below.size)⟩
  rw [← h.twin, hdr]
  simp only [twinOf]
  rw [hF, hr, hS, ByteArray.append_assoc, ByteArray.append_assoc]

set_option maxHeartbeats 4000000 in
set_option maxRecDepth 100000 in
theorem lexSpaced_walk (s : ByteArray) (a1 : Option Addr) (len1 cap1 : Nat) (z1 : List Int) (w : World) (hs : s.size ≤ 140737488351232) (w1 : IsRow .u8 w a1 len1 cap1 z1) :
    Calls Try.prog 9 #[.string s, .slice a1 len1 cap1] w fun e w' => e = .returned (.bool true) ∧ Below w.heap.size w w' := by
  have hct := fun (W : World) => tokens_calls s sgC W hs sgC_low
  cases ht : toks s sgC with
  | error x =>
    obtain ⟨c, p⟩ := x
    rw [ht] at hct
    have he := toks_err s sgC c p ht
    have hcb : (c != 0) = true := by rw [bne_iff_ne]; rcases he.1 with h | h <;> rw [h] <;> decide
    clear he ht
    simp only [sgC] at hct
    go_enter Try.func9, Try.ntmps9
    go_wp2_with (first | (go_at_call 34; refine (awake03_calls _).mono ?_; rintro e wB ⟨rfl, hB⟩; have hzB := hB.size; (try simp only [World.size_alloc, World.size_setCell, World.size_drew] at hzB); obtain ⟨hcB, hfB⟩ := bcell hB))
    refine (hct _).mono ?_
    rintro e w2 ⟨hB2, rfl⟩
    go_wp2_with fail
    go_ret
    exact ⟨rfl, (hB.trans (hB2.mono hB.size)).alloc (by have := hB2.size; omega) _⟩
  | ok l =>
    rw [ht] at hct
    obtain ⟨hs8, htf⟩ := toks_ok s sgC l ht
    obtain ⟨hl1, hl2, hend, hpl⟩ := places s sgC 2048 0 l (Nat.zero_le _) htf
    have htx : ∀ k (t : Tok), l[k]? = some t → t.text.size ≤ 8192 := fun k t hk => by
      have h1 := (hpl k t hk).fit
      have h2 : t.text.size ≤ (shown t.kind t.text).size := by
        unfold shown; split
        · rw [ByteArray.size_append, ByteArray.size_append]; omega
        · exact Nat.le_refl _
      omega
    obtain ⟨gp, hgp⟩ : ∃ gp, gp = gpOf len1 z1 := ⟨_, rfl⟩
    have htz := twin_size s sgC gp 2048 0 l 0 (Nat.zero_le _) htf
    obtain ⟨l', hta, hkt⟩ := again s sgC gp sgC_no47 sgC_noblank 2048 0 l (Nat.zero_le _) htf ByteArray.empty 0 2048 hl1
    rw [ByteArray.empty_append] at hta
    have hll : l'.length = l.length := by have := congrArg List.length hkt; simpa using this
    have HTX := Lib.hid htx
    have HTA := Lib.hid hta
    have HKT := Lib.hid hkt
    have HGP := Lib.hid hgp
    obtain ⟨TW, hTW⟩ : ∃ T, T = twinOf gp l 0 := ⟨_, rfl⟩
    rw [← hTW] at htz
    have HTW := Lib.hid hTW
    have hTz : TW.size ≤ 24576 := by omega
    clear htf hend hpl ht htx hta hkt hgp hTW htz
    have HROW := Lib.hid w1
    have hlc : len1 ≤ 9223372036854775807 := by
      rcases w1 with ⟨_, h, _, _⟩ | ⟨x, _, h1, h2, _⟩
      · omega
      · unfold maxLen at h2
        omega
    clear w1
    simp only [sgC] at hct
    go_enter Try.func9, Try.ntmps9
    go_wp2_with (first | (go_at_call 34; refine (awake03_calls _).mono ?_; rintro e wB ⟨rfl, hB⟩; have hzB := hB.size; (try simp only [World.size_alloc, World.size_setCell, World.size_drew] at hzB); obtain ⟨hcB, hfB⟩ := bcell hB))
    refine (hct _).mono ?_
    rintro e w2 ⟨hB2, v, rfl, hown⟩
    obtain ⟨g, cap, rfl, hg1, hg2⟩ := hown.form (by omega)
    go_wp2_with fail
    obtain ⟨W1, hW1⟩ : ∃ x, x = (w2.alloc (Obj.cells #[Value.int .i64 0, Value.int .i64 0] 79)).alloc (Obj.cells #[Value.string ⟨#[32]⟩, Value.string ⟨#[10]⟩, Value.string ⟨#[9, 13, 32]⟩, Value.string ⟨#[47, 47, 32, 34, 120, 32, 123, 10]⟩, Value.string ⟨#[32, 47, 47, 10, 47, 47, 10]⟩] 9) := ⟨_, rfl⟩
    have hB01 : Below w.heap.size w W1 := by
      rw [hW1]
      have h1 := hB.size
      have h2 := hB2.size
      exact ((hB.trans (hB2.mono hB.size)).alloc (by omega) _).alloc (by simp; omega) _
    have hTA1 : ToksAt W1 g l := by
      rw [hW1]
      exact fun j u hu => alloc_keep3 (alloc_keep3 (by have := hown.cells (g := g) rfl j u hu; simpa [Addr.add_lit] using this))
    obtain ⟨Fb, hFb⟩ : ∃ F, F = w2.heap.size + 1 := ⟨_, rfl⟩
    have hFA : FillsAt W1 Fb := by
      rw [hW1, hFb]
      have hn := blk_new (w2.alloc (Obj.cells #[Value.int .i64 0, Value.int .i64 0] 79)) (Obj.cells #[Value.string ⟨#[32]⟩, Value.string ⟨#[10]⟩, Value.string ⟨#[9, 13, 32]⟩, Value.string ⟨#[47, 47, 32, 34, 120, 32, 123, 10]⟩, Value.string ⟨#[32, 47, 47, 10, 47, 47, 10]⟩] 9)
      simp only [World.size_alloc] at hn
      intro r hr
      rw [blk_cell hn]
      have : r = 0 ∨ r = 1 ∨ r = 2 ∨ r = 3 ∨ r = 4 := by omega
      rcases this with rfl | rfl | rfl | rfl | rfl <;> rfl
    rw [← hW1, ← hFb]
    have hI0 : SpInv w g Fb l gp 0 ⟨#[]⟩ W1 := ⟨by rw [List.drop_zero]; exact ByteArray.empty_append, hTA1, hFA, hB01⟩
    clear hW1 hFb hB01 hTA1 hFA hB hzB hcB hfB hB2 hown hg1 hg2
    have hex : ∃ x : Nat, x = 0 := ⟨0, rfl⟩
    go_loopw [8, 28] (fun v8 v28 wr => ∃ (k : Nat) (acc : ByteArray), k ≤ l.length ∧ v28 = .int .i64 (k : Int) ∧ v8 = .string acc ∧ Hid (SpInv w g Fb l gp k acc wr)) (fun _ v28 _ => l.length - (intOf v28).toNat)
    case atStart => exact ⟨0, ⟨#[]⟩, by omega, rfl, rfl, hI0⟩
    case round =>
      obtain ⟨k, acc, hk, rfl, rfl, hI⟩ := hrel
      clear hI0 hex
      have hacc : acc.size ≤ 24576 := by
        have h1 := congrArg ByteArray.size hI.out.twin
        rw [ByteArray.size_append, ← HTW.out] at h1
        omega
      by_cases hkl : k < l.length
      · have hkI : (k : Int) < (l.length : Int) := by omega
        obtain ⟨t, hget⟩ : ∃ t, l[k]? = some t := ⟨l[k], by rw [List.getElem?_eq_getElem hkl]⟩
        have htz := HTX.out k t hget
        have hdr : l.drop k = t :: l.drop (k + 1) := by
          rw [List.drop_eq_getElem_cons hkl]
          have := List.getElem?_eq_getElem hkl
          rw [hget] at this
          rw [Option.some.inj this]
        obtain ⟨g1, g2, g3⟩ := tokCells_at l k t hget
        have c0 : wr.cell? ⟨g, k * 3, none⟩ = some (.int .i64 t.kind) := hI.out.toks _ _ g1
        have c1 : wr.cell? ⟨g, k * 3 + 1, none⟩ = some (.string t.text) := hI.out.toks _ _ g2
        have c2 : wr.cell? ⟨g, k * 3 + 2, none⟩ = some (.int .i64 (t.pos : Int)) := hI.out.toks _ _ g3
        have HDR := Lib.hid hdr
        clear g1 g2 g3 hdr hget
        -- the gap
        obtain ⟨r, hr⟩ : ∃ r, r = gp k := ⟨_, rfl⟩
        have hgb : 0 ≤ gapAt len1 z1 k ∧ gapAt len1 z1 k ≤ 255 := by
          unfold gapAt
          split
          · omega
          · rename_i hne
            rcases HROW.out with ⟨_, h, _, _⟩ | ⟨x, _, h1, h2, h3, h4, h5⟩
            · exact absurd h hne
            · have hm : k % len1 < z1.length := by have := Nat.mod_lt k (Nat.pos_of_ne_zero hne); omega
              have hmem : z1.getD (k % len1) 0 ∈ z1 := by
                rw [List.getD_eq_getElem?_getD, List.getElem?_eq_getElem hm]; exact List.getElem_mem hm
              have hb := bounds_u8 (h5 _ hmem)
              omega
        have hr5 : r < 5 := by rw [hr, HGP.out]; unfold gpOf; omega
        have hri : (r : Int) = gapAt len1 z1 k % 5 := by rw [hr, HGP.out]; unfold gpOf; omega
        obtain ⟨gv, hgv⟩ : ∃ x, x = gapAt len1 z1 k := ⟨_, rfl⟩
        rw [← hgv] at hgb hri
        have hgb0 := hgb.1
        have hgb1 := hgb.2
        have em : Int.tmod gv 5 = (r : Int) := by rw [Int.tmod_eq_emod_of_nonneg hgb0]; exact hri.symm
        have em2 : gv % 5 = (r : Int) := hri.symm
        have cf : wr.cell? ⟨Fb, r, none⟩ = some (.string (fillOf r)) := hI.out.fills r hr5
        have hfz := fill_size r
        obtain ⟨F, hF⟩ : ∃ F, F = fillOf r := ⟨_, rfl⟩
        rw [← hF] at cf hfz
        have df : (wr.alloc (Obj.cells #[Value.int .i64 t.kind, Value.string t.text, Value.int .i64 (t.pos : Int)] 85)).cell? ⟨Fb, r, none⟩ = some (.string F) := alloc_keep3 cf
        have HF := Lib.hid hF
        have HR := Lib.hid hr
        have HGV := Lib.hid hgv
        have hrI : (r : Int) < 5 := by omega
        have hr0 : (0 : Int) ≤ (r : Int) := by omega
        clear hF hr hgv hri hgb
        by_cases hl0 : len1 = 0
        · have hv0 : gv = 0 := by rw [HGV.out, gapAt, if_pos hl0]
          have hrr : r = 0 := by rw [hv0] at em; simp at em; omega
          subst hv0
          subst hrr
          subst hl0
          clear em em2 hr5 hrI hr0
          by_cases h3 : t.kind = 3
          · have b3 : (t.kind == 3) = true := by rw [h3]; rfl
            have HS := Lib.hid (show shown t.kind t.text = ⟨#[34]⟩ ++ t.text ++ ⟨#[34]⟩ by rw [shown, if_pos h3])
            clear h3
            go_wp2_with fail
            go_roundw
            case rel => exact ⟨k + 1, _, by omega, by go_num, rfl, hI.out.step HDR.out HF.out HR.out HS.out _⟩
            case measure => simp [intOf]; omega
          · have b3 : (t.kind == 3) = false := by rw [beq_eq_false_iff_ne]; exact h3
            have HS := Lib.hid (show shown t.kind t.text = t.text by rw [shown, if_neg h3])
            clear h3
            go_wp2_with fail
            go_roundw
            case rel => exact ⟨k + 1, _, by omega, by go_num, rfl, hI.out.step HDR.out HF.out HR.out HS.out _⟩
            case measure => simp [intOf]; omega
        · have hz : decide ((0 : Int) < (len1 : Int)) = true := decide_eq_true (by omega)
          have hlp : 0 < len1 := Nat.pos_of_ne_zero hl0
          obtain ⟨y, hy⟩ : ∃ y, y = k % len1 := ⟨_, rfl⟩
          have hyl : y < len1 := by rw [hy]; exact Nat.mod_lt _ hlp
          have ey : (k : Int) % (len1 : Int) = (y : Int) := by rw [hy]; omega
          have hex : ∃ x : Addr, a1 = some x ∧ wr.cell? (x.add y) = some (.int .u8 gv) := by
            rcases HROW.out with ⟨_, h, _, _⟩ | ⟨x, hx, h1, h2, h3, h4, h5⟩
            · exact absurd h hl0
            · refine ⟨x, hx, ?_⟩
              have h6 := row_cell (h4 y (by omega)) hI.out.below
              rw [h6, HGV.out, gapAt, if_neg hl0, hy]
          obtain ⟨x, rfl, cg⟩ := hex
          have dg : (wr.alloc (Obj.cells #[Value.int .i64 t.kind, Value.string t.text, Value.int .i64 (t.pos : Int)] 85)).cell? (x.add y) = some (.int .u8 gv) := alloc_keep3 cg
          have hyI : (y : Int) < (len1 : Int) := by omega
          have hlI : (0 : Int) < (len1 : Int) := by omega
          have hy0 : (0 : Int) ≤ (y : Int) := by omega
          clear hy hl0
          by_cases h3 : t.kind = 3
          · have b3 : (t.kind == 3) = true := by rw [h3]; rfl
            have HS := Lib.hid (show shown t.kind t.text = ⟨#[34]⟩ ++ t.text ++ ⟨#[34]⟩ by rw [shown, if_pos h3])
            clear h3
            go_wp2_with fail
            go_roundw
            case rel => exact ⟨k + 1, _, by omega, by go_num, rfl, hI.out.step HDR.out HF.out HR.out HS.out _⟩
            case measure => simp [intOf]; omega
          · have b3 : (t.kind == 3) = false := by rw [beq_eq_false_iff_ne]; exact h3
            have HS := Lib.hid (show shown t.kind t.text = t.text by rw [shown, if_neg h3])
            clear h3
            go_wp2_with fail
            go_roundw
            case rel => exact ⟨k + 1, _, by omega, by go_num, rfl, hI.out.step HDR.out HF.out HR.out HS.out _⟩
            case measure => simp [intOf]; omega
      · have hke : k = l.length := by omega
        have hT := hI.out.twin
        rw [hke, List.drop_length, ← HTW.out] at hT
        have hat : acc = TW := by rw [← hT]; exact ByteArray.append_empty.symm
        have hkI : (l.length : Int) ≤ (k : Int) := by omega
        have HBW := Lib.hid hI.out.below
        have hTK := hI.out.toks
        subst hat
        clear hT hke hI
        by_cases hbig : 8192 < acc.size
        · have hd : decide ((8192 : Int) < (acc.size : Int)) = true := decide_eq_true (by omega)
          go_wp2_with fail
          go_ret
          exact ⟨rfl, HBW.out⟩
        · have hd : decide ((8192 : Int) < (acc.size : Int)) = false := decide_eq_false (by omega)
          have ht2 : toks acc sgC = .ok l' := by rw [toks, if_neg hbig]; have := HTA.out; rw [← HTW.out] at this; exact this
          have hct2 := fun (W : World) => tokens_calls acc sgC W (by omega) sgC_low
          rw [ht2] at hct2
          simp only [sgC] at hct2
          clear hbig ht2
          go_wp2_with fail
          refine (hct2 _).mono ?_
          rintro e w3 ⟨hB3, v, rfl, hown3⟩
          have hl1' : 1 ≤ l'.length := by omega
          obtain ⟨g3, cap3, rfl, hg3, hg4⟩ := hown3.form (by omega)
          have hTK3 : ToksAt w3 g l := toksAt_below hTK hB3
          have hTK4 : ToksAt w3 g3 l' := fun j u hu => by have := hown3.cells (g := g3) rfl j u hu; simpa [Addr.add_lit] using this
          have hB03 := HBW.out.trans (hB3.mono HBW.out.size)
          go_wp2_with fail
          have hB4 : Below w.heap.size w (w3.alloc (Obj.cells #[Value.int .i64 0, Value.int .i64 0] 79)) := hB03.alloc hB03.size _
          have hTA : ToksAt (w3.alloc (Obj.cells #[Value.int .i64 0, Value.int .i64 0] 79)) g l := fun j u hu => alloc_keep3 (hTK3 j u hu)
          have hTB : ToksAt (w3.alloc (Obj.cells #[Value.int .i64 0, Value.int .i64 0] 79)) g3 l' := fun j u hu => alloc_keep3 (hTK4 j u hu)
          have HLL := Lib.hid hll
          clear hTK hown3 hTK3 hTK4 hB3 hB03 hct hct2
          obtain ⟨W4, hW4⟩ : ∃ x, x = w3.alloc (Obj.cells #[Value.int .i64 0, Value.int .i64 0] 79) := ⟨_, rfl⟩
          rw [← hW4] at hB4 hTA hTB ⊢
          clear hW4 hkI hkl hk hacc hd hTz hlc
          go_loopw [87] (fun v87 wq => ∃ j : Nat, j ≤ l.length ∧ v87 = .int .i64 (j : Int) ∧ Hid (ToksAt wq g l) ∧ Hid (ToksAt wq g3 l') ∧ Hid (Below w.heap.size w wq)) (fun v87 _ => l.length - (intOf v87).toNat)
          case atStart => exact ⟨0, by omega, rfl, hTA, hTB, hB4⟩
          case round =>
            obtain ⟨j, hj, rfl, hTj, hTj2, hBj⟩ := hrel
            clear hTA hTB hB4
            by_cases hjl : j < l.length
            · have hjI : (j : Int) < (l.length : Int) := by omega
              obtain ⟨t, hget⟩ : ∃ t, l[j]? = some t := ⟨l[j], by rw [List.getElem?_eq_getElem hjl]⟩
              obtain ⟨t2, hget2⟩ : ∃ t, l'[j]? = some t := ⟨l'[j]'(by have := HLL.out; omega), by rw [List.getElem?_eq_getElem]⟩
              have hkt2 : kt t2 = kt t := by
                have h1 := congrArg (fun x : List (Int × ByteArray) => x[j]?) HKT.out
                simp only [List.getElem?_map, hget, hget2, Option.map_some] at h1
                exact Option.some.inj h1
              have hkk : t2.kind = t.kind := congrArg Prod.fst hkt2
              have htt : t2.text = t.text := congrArg Prod.snd hkt2
              obtain ⟨a1, a2, _⟩ := tokCells_at l j t hget
              obtain ⟨b1, b2, _⟩ := tokCells_at l' j t2 hget2
              rw [hkk] at b1
              rw [htt] at b2
              have c0 := hTj.out _ _ a1
              have c1 := hTj.out _ _ a2
              have d0 := hTj2.out _ _ b1
              have d1 := hTj2.out _ _ b2
              clear a1 a2 b1 b2 hkk htt hkt2 hget hget2
              go_wp2_with fail
              go_quiet (fail)
              go_wp2_with fail
              go_roundw
              case rel => exact ⟨j + 1, by omega, by go_num, hTj, hTj2, (show Below w.heap.size w (wr.drewN nq) from ⟨hBj.out.os, hBj.out.tape, hBj.out.output, hBj.out.size, hBj.out.block⟩)⟩
              case measure => simp [intOf]; omega
            · have hjI : (l.length : Int) ≤ (j : Int) := by omega
              go_wp2_with fail
              go_ret
              exact ⟨rfl, hBj.out⟩

end Go.Proofs.Ytlfpakopahmdiaa
