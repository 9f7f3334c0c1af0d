/-
  Two lists of tokens, one behind the other: the parser's run.
-/
import Derived.Test.YtgoaiokpnifhfaaJoinT
namespace Go.Proofs.Ytgoaiokpnifhfaa
open Go.RowKit
set_option linter.unusedVariables false
set_option linter.unusedSimpArgs false

/-- the first N tokens are a list's without its end -/
structure Pre (la L : List Tok) (N : Nat) : Prop where
  len : la.length = N + 1
  same : ∀ a, a < N → hereT L a = hereT la a
  ended : Ended la
  more : N + 1 ≤ L.length
  inner : ∀ a, a < N → (hereT la a).kind ≠ 0
theorem Pre.lt {la L : List Tok} {N : Nat} (h : Pre la L N) {a : Nat} (hk : (hereT la a).kind ≠ 0) : a < N := by
  by_cases e : la.length ≤ a + 1
  · exact absurd (h.ended.2 a e) hk
  · have := h.len; omega
theorem isT_pre {la L : List Tok} {N : Nat} (h : Pre la L N) {k : Int} {s : ByteArray} {σ : PS} (ha : σ.a < N) : isT L k s σ = isT la k s σ := by
  rw [isT, isT, h.same _ ha]
theorem isT_at {la L : List Tok} {N : Nat} (h : Pre la L N) {k : Int} (hk : k ≠ 0) {s : ByteArray} {σ : PS} (ht : isT la k s σ = true) : σ.a < N ∧ isT L k s σ = true := by
  have hlt := h.lt (a := σ.a) (by rw [(isT_kind ht).2.1]; exact hk)
  exact ⟨hlt, by rw [isT_pre h hlt]; exact ht⟩
theorem want_ok {l : List Tok} {s : ByteArray} {σ : PS} (hc : (wantS l s σ).c = 0) : isT l 4 s σ = true := by
  unfold wantS at hc
  split at hc
  · assumption
  · exact absurd hc (failS_c (by decide) σ)
theorem want_pre {la L : List Tok} {N : Nat} (h : Pre la L N) {s : ByteArray} {σ : PS} (hc : (wantS la s σ).c = 0) : σ.a < N ∧ σ.c = 0 ∧ wantS L s σ = wantS la s σ := by
  have ht := want_ok hc
  obtain ⟨h1, h2⟩ := isT_at h (by decide) ht
  exact ⟨h1, (isT_kind ht).1, by rw [wantS, wantS, if_pos ht, if_pos h2]⟩
theorem name_pre {la L : List Tok} {N : Nat} (h : Pre la L N) {q : Bool} {σ : PS} (hc : (nameS la q σ).c = 0) : σ.a < N ∧ σ.c = 0 ∧ nameS L q σ = nameS la q σ ∧ nameV L q σ = nameV la q σ := by
  have h0 : σ.c = 0 := by
    by_cases e : σ.c = 0
    · exact e
    · unfold nameS at hc; rw [if_neg e] at hc; exact hc
  have hb : nameBad la q σ = false := by
    cases e : nameBad la q σ with
    | false => rfl
    | true => unfold nameS at hc; rw [if_pos h0, if_pos e] at hc; exact absurd hc (failS_c (by decide) σ)
  have hlt := h.lt (nameBad_kind hb)
  have e := h.same _ hlt
  refine ⟨hlt, h0, ?_, ?_⟩
  · unfold nameS nameBad nameLong failS; rw [e]
  · unfold nameV nameBad nameLong; rw [e]
theorem kindLoop_stuck {l : List Tok} {f n : Nat} {σ : PS} (h : σ.c ≠ 0) : kindLoop l f n σ = (n, σ) := by
  cases f with
  | zero => rfl
  | succ f => simp only [kindLoop]; rw [if_neg (by rw [isT_fault h]; simp)]
theorem kindLoop_pre {la L : List Tok} {N : Nat} (h : Pre la L N) : ∀ (f n : Nat) (σ : PS), (nameS la false (kindLoop la f n σ).2).c = 0 → kindLoop L f n σ = kindLoop la f n σ := by
  intro f
  induction f with
  | zero => intro n σ _; rfl
  | succ f ih =>
    intro n σ hc
    simp only [kindLoop] at hc ⊢
    by_cases ht : isT la 1 cList σ = true
    · obtain ⟨h1, h2⟩ := isT_at h (by decide) ht
      rw [if_pos ht] at hc ⊢
      rw [if_pos h2]
      have hkc : (kindStep la n σ).c = 0 := by
        by_cases e : (kindStep la n σ).c = 0
        · exact e
        · rw [kindLoop_stuck e] at hc
          exact absurd (name_pre h hc).2.1 e
      have hk : kindStep L n σ = kindStep la n σ := by
        unfold kindStep at hkc ⊢
        by_cases e : 3 < n + 1
        · rw [if_pos e] at hkc
          exact absurd (want_pre h hkc).2.1 (failS_c (by decide) σ)
        · rw [if_neg e] at hkc
          rw [if_neg e, if_neg e, (want_pre h hkc).2.2]
      rw [hk]
      exact ih _ _ hc
    · rw [if_neg ht] at hc ⊢
      have hlt := (name_pre h hc).1
      rw [if_neg (by rw [isT_pre h hlt]; exact ht)]
theorem wantN_stuck {l : List Tok} {s : ByteArray} : ∀ (n : Nat) {σ : PS}, σ.c ≠ 0 → wantN l s n σ = σ := by
  intro n
  induction n with
  | zero => intro σ _; rfl
  | succ n ih =>
    intro σ h
    have e : wantS l s σ = σ := by rw [wantS, if_neg (by rw [isT_fault h]; simp), failS_stuck h]
    simp only [wantN]; rw [e]; exact ih h
theorem wantN_pre {la L : List Tok} {N : Nat} (h : Pre la L N) {s : ByteArray} : ∀ (n : Nat) {σ : PS}, (wantN la s n σ).c = 0 → wantN L s n σ = wantN la s n σ ∧ σ.c = 0 := by
  intro n
  induction n with
  | zero => intro σ hc; exact ⟨rfl, hc⟩
  | succ n ih =>
    intro σ hc
    simp only [wantN] at hc ⊢
    obtain ⟨h1, h2⟩ := ih hc
    obtain ⟨_, h3, h4⟩ := want_pre h h2
    rw [h4]; exact ⟨h1, h3⟩
theorem kind_pre {la L : List Tok} {N : Nat} (h : Pre la L N) {σ : PS} (hc : (kindS la σ).c = 0) : kindS L σ = kindS la σ ∧ σ.c = 0 := by
  unfold kindS at hc ⊢
  obtain ⟨_, h1⟩ := wantN_pre h _ hc
  have hk : kindK L σ = kindK la σ := kindLoop_pre h 5 0 σ h1
  have hn := name_pre h h1
  refine ⟨?_, ?_⟩
  · rw [hk, hn.2.2.1]; exact (wantN_pre h _ hc).1
  · by_cases e : σ.c = 0
    · exact e
    · have := hn.2.1
      unfold kindK at this
      rw [kindLoop_stuck e] at this
      exact this
theorem field_pre {la L : List Tok} {N : Nat} (h : Pre la L N) {σ : PS} (hc : (fieldS la σ).c = 0) : σ.a < N ∧ fieldS L σ = fieldS la σ := by
  unfold fieldS at hc ⊢
  have hw := want_pre h hc
  have hE0 : (fieldE la σ).c = 0 := by
    by_cases e : hasDef la σ = true
    · exact (isT_kind e).1
    · have := hw.2.1; rw [if_neg e] at this; exact this
  have hk := kind_pre h (σ := fieldT la σ) hE0
  have hT := want_pre h (σ := nameS la true σ) hk.2
  have hn := name_pre h hT.2.1
  have eT : fieldT L σ = fieldT la σ := by unfold fieldT; rw [hn.2.2.1, hT.2.2]
  have eE : fieldE L σ = fieldE la σ := by unfold fieldE; rw [eT, hk.1]
  refine ⟨hn.1, ?_⟩
  by_cases e : hasDef la σ = true
  · have e2 : hasDef L σ = true := by unfold hasDef at e ⊢; rw [eE]; exact (isT_at h (by decide) e).2
    rw [if_pos e] at hc hw ⊢
    rw [if_pos e2, eE]
    have hd : defS L (fieldE la σ) = defS la (fieldE la σ) := by
      have h0 := hw.2.1
      unfold defS at h0 ⊢
      by_cases g : (hereT la (goS (fieldE la σ)).a).kind = 1 ∨ (hereT la (goS (fieldE la σ)).a).kind = 2
      · have hlt := h.lt (a := (goS (fieldE la σ)).a) (by rcases g with g | g <;> rw [g] <;> decide)
        rw [if_pos g, if_pos (by rw [h.same _ hlt]; exact g)]
      · rw [if_neg g] at h0
        exact absurd h0 (failS_c (by decide) _)
    rw [hd]; exact hw.2.2
  · rw [if_neg e] at hc hw ⊢
    have e2 : ¬ hasDef L σ = true := by
      unfold hasDef at e ⊢; rw [eE, isT_pre h hw.1]; exact e
    rw [if_neg e2, eE]; exact hw.2.2
theorem item_pre {la L : List Tok} {N : Nat} (h : Pre la L N) {σ : PS} (hc : (itemS la σ).c = 0) : σ.a < N ∧ itemS L σ = itemS la σ := by
  have key : (nameS la false σ).c = 0 ∧ (nameS la false σ).a < N := by
    unfold itemS at hc
    split at hc
    · rename_i ht; exact ⟨(isT_kind ht).1, (isT_at h (by decide) ht).1⟩
    · split at hc
      · rename_i g; exact ⟨hc, h.lt (by rw [g.1]; decide)⟩
      · exact absurd hc (failS_c (by decide) _)
  have hn := name_pre h key.1
  refine ⟨hn.1, ?_⟩
  unfold itemS
  rw [hn.2.2.1, isT_pre h key.2, h.same _ key.2]
  unfold failS
  rw [h.same _ key.2]
theorem ser_pre {α : Type} {la L : List Tok} {N : Nat} (h : Pre la L N) {one oneL : PS → PS} {val valL : PS → α} (hm : ∀ σ, Fine la σ → Moves la σ (one σ)) (ho : ∀ σ, (one σ).c = 0 → σ.a < N ∧ oneL σ = one σ) :
    ∀ (f f2 : Nat) (σ : PS) (acc acc2 : List α), Fine la σ → left la σ ≤ f → f ≤ f2 → acc2.length = acc.length → (serLoop la one val f σ acc).2.c = 0 →
      (serLoop L oneL valL f2 σ acc2).2 = (serLoop la one val f σ acc).2 ∧ (serLoop L oneL valL f2 σ acc2).1.length = (serLoop la one val f σ acc).1.length := by
  intro f
  induction f with
  | zero =>
    intro f2 σ acc acc2 hF hl hf ha hc
    simp only [serLoop] at hc
    exact absurd (left_pos hc hF) (by omega)
  | succ f ih =>
    intro f2 σ acc acc2 hF hl hf ha hc
    obtain ⟨f2', rfl⟩ : ∃ x, f2 = x + 1 := ⟨f2 - 1, by omega⟩
    by_cases h0 : σ.c = 0
    · simp only [serLoop] at hc ⊢
      rw [if_pos h0] at hc ⊢
      rw [if_pos h0]
      by_cases ht : isT la 4 cClose σ = true
      · rw [if_pos ht, if_pos (isT_at h (by decide) ht).2]
        exact ⟨rfl, ha⟩
      · rw [if_neg ht] at hc ⊢
        have h1 : (one σ).c = 0 := by
          by_cases e : (one σ).c = 0
          · exact e
          · rw [serLoop_stuck _ _ e] at hc; exact hc
        obtain ⟨hlt, he⟩ := ho σ h1
        rw [if_neg (by rw [isT_pre h hlt]; exact ht), he]
        have hmv := hm σ hF
        exact ih f2' _ _ _ hmv.fine (by have := hmv.left h0 hF; omega) (by omega) (by simp [ha]) hc
    · rw [serLoop_stuck _ _ h0] at hc
      exact absurd hc h0
theorem serR_pre {α : Type} {la L : List Tok} {N : Nat} (h : Pre la L N) {one oneL : PS → PS} {val valL : PS → α} (hm : ∀ σ, Fine la σ → Moves la σ (one σ)) (ho : ∀ σ, (one σ).c = 0 → σ.a < N ∧ oneL σ = one σ) (σ : PS) (hF : Fine la σ) (hc : (serR la one val σ).2.c = 0) :
    σ.c = 0 ∧ (serR L oneL valL σ).2 = (serR la one val σ).2 ∧ (serR L oneL valL σ).1.length = (serR la one val σ).1.length := by
  unfold serR at hc ⊢
  have h1 : (wantS la cOpen σ).c = 0 := by
    by_cases e : (wantS la cOpen σ).c = 0
    · exact e
    · rw [serLoop_stuck _ _ e] at hc; exact hc
  have hw := want_pre h h1
  rw [hw.2.2]
  have := ser_pre h (valL := valL) hm ho (la.length + 1) (L.length + 1) _ [] [] (wantS_moves h.ended hF).fine left_le (by have := h.len; have := h.more; omega) rfl hc
  exact ⟨hw.2.1, this⟩
theorem rec_pre {la L : List Tok} {N : Nat} (h : Pre la L N) {σ : PS} (hF : Fine la σ) (hc : (recS la σ).c = 0) : recS L σ = recS la σ ∧ (recV L σ).name = (recV la σ).name ∧ (recV L σ).fields.length = (recV la σ).fields.length := by
  have hn0 := nameS_moves h.ended (q := false) hF
  have hs := serR_pre h (one := fieldS la) (oneL := fieldS L) (val := fieldV la) (valL := fieldV L) (fun σ h2 => fieldS_moves h.ended h2) (fun σ h2 => field_pre h h2) (nameS la false σ) hn0.fine hc
  have hn := name_pre h hs.1
  unfold recS recV
  rw [hn.2.2.1, hn.2.2.2]
  exact ⟨hs.2.1, rfl, hs.2.2⟩
theorem cho_pre {la L : List Tok} {N : Nat} (h : Pre la L N) {σ : PS} (hF : Fine la σ) (hc : (choS la σ).c = 0) : choS L σ = choS la σ := by
  have hn0 := nameS_moves h.ended (q := false) hF
  have hs := serR_pre h (one := itemS la) (oneL := itemS L) (val := nameV la false) (valL := nameV L false) (fun σ h2 => itemS_moves h.ended h2) (fun σ h2 => item_pre h h2) (nameS la false σ) hn0.fine hc
  have hn := name_pre h hs.1
  unfold choS
  rw [hn.2.2.1]
  exact hs.2.1

/-- what IdlJoins looks at -/
def look (r : RawD) : List (ByteArray × Nat) × Nat × Nat := (r.structs.map fun x => (x.name, x.fields.length), r.enums.length, r.roots.length)
theorem decl_pre {la L : List Tok} {N : Nat} (h : Pre la L N) {σ : PS} {r r2 : RawD} (hF : Fine la σ) (hk : (hereT la σ.a).kind ≠ 0) (hr : look r2 = look r) (hc : (declS la σ).c = 0) : declS L σ = declS la σ ∧ look (declV L σ r2) = look (declV la σ r) := by
  have hlt := h.lt hk
  have h3 := hr
  simp only [look, Prod.mk.injEq] at h3
  unfold declS at hc ⊢
  unfold declV
  simp only [isT_pre h hlt]
  by_cases t1 : isT la 1 cStruct σ = true
  · rw [if_pos t1] at hc
    simp only [if_pos t1]
    have hg := (moves_go h.ended hF (isT_kind t1).1 hk).fine
    obtain ⟨e1, e2, e3⟩ := rec_pre h hg hc
    exact ⟨e1, by simp [look, h3, e2, e3]⟩
  · rw [if_neg t1] at hc
    simp only [if_neg t1]
    by_cases t2 : isT la 1 cEnum σ = true
    · rw [if_pos t2] at hc
      simp only [if_pos t2]
      have hg := (moves_go h.ended hF (isT_kind t2).1 hk).fine
      exact ⟨cho_pre h hg hc, by simp [look, h3]⟩
    · rw [if_neg t2] at hc
      simp only [if_neg t2]
      by_cases t3 : isT la 1 cRoot σ = true
      · rw [if_pos t3] at hc
        simp only [if_pos t3]
        have hw := want_pre h hc
        have hn := name_pre h hw.2.1
        rw [hn.2.2.1]
        exact ⟨hw.2.2, by simp [look, h3]⟩
      · rw [if_neg t3] at hc
        exact absurd hc (failS_c (by decide) _)
theorem all_pre {la L : List Tok} {N : Nat} (h : Pre la L N) : ∀ (f f2 : Nat) (σ : PS) (r r2 : RawD), Fine la σ → left la σ ≤ f → f ≤ f2 → look r2 = look r → (allLoop la f σ r).2.c = 0 →
    ∃ f3 r3 τ, allLoop L f2 σ r2 = allLoop L f3 τ r3 ∧ τ.a = N ∧ τ.c = 0 ∧ look r3 = look (allLoop la f σ r).1 ∧ f2 + σ.a ≤ f3 + N := by
  intro f
  induction f with
  | zero =>
    intro f2 σ r r2 hF hl hf hr hc
    simp only [allLoop] at hc
    exact absurd (left_pos hc hF) (by omega)
  | succ f ih =>
    intro f2 σ r r2 hF hl hf hr hc
    by_cases h0 : σ.c = 0
    · by_cases hk : (hereT la σ.a).kind = 0
      · have hN : σ.a = N := by
          have h1 := hF.2 h0
          have h2 := h.len
          by_cases e : σ.a < N
          · exact absurd hk (h.inner _ e)
          · omega
        refine ⟨f2, r2, σ, rfl, hN, h0, ?_, by omega⟩
        rw [allLoop_stop (fun g => g.2 hk)]
        exact hr
      · have hstep : allLoop la (f + 1) σ r = allLoop la f (declS la σ) (declV la σ r) := by simp only [allLoop]; rw [if_pos ⟨h0, hk⟩]
        rw [hstep] at hc ⊢
        obtain ⟨f2', rfl⟩ : ∃ x, f2 = x + 1 := ⟨f2 - 1, by omega⟩
        have hlt := h.lt hk
        have hd0 : (declS la σ).c = 0 := by
          by_cases e : (declS la σ).c = 0
          · exact e
          · rw [allLoop_stop (fun g => e g.1)] at hc; exact hc
        obtain ⟨e1, e2⟩ := decl_pre h hF hk hr hd0
        have hm := declS_moves h.ended hF
        have hL : allLoop L (f2' + 1) σ r2 = allLoop L f2' (declS la σ) (declV L σ r2) := by
          simp only [allLoop]; rw [if_pos ⟨h0, by rw [h.same _ hlt]; exact hk⟩, e1]
        rw [hL]
        obtain ⟨f3, r3, τ, g1, g2, g3, g4, g5⟩ := ih f2' _ _ _ hm.fine (by have := hm.left h0 hF; omega) (by omega) e2 hc
        exact ⟨f3, r3, τ, g1, g2, g3, g4, by have := hm.far hd0; omega⟩
    · rw [allLoop_stop (fun g => h0 g.1)] at hc
      exact absurd hc h0

/-! ### the second list, behind the first one -/
structure Suf (lb L : List Tok) (N : Nat) : Prop where
  len : L.length = N + lb.length
  same : ∀ a, (hereT L (N + a)).kind = (hereT lb a).kind ∧ (hereT L (N + a)).text = (hereT lb a).text
  ended : Ended lb
/-- the same state, farther on -/
structure Sh (N : Nat) (σ τ : PS) : Prop where
  a : τ.a = N + σ.a
  c : τ.c = σ.c
theorem sh_kind {lb L : List Tok} {N : Nat} (h : Suf lb L N) {σ τ : PS} (s : Sh N σ τ) : (hereT L τ.a).kind = (hereT lb σ.a).kind ∧ (hereT L τ.a).text = (hereT lb σ.a).text := by rw [s.a]; exact h.same _
theorem isT_sh {lb L : List Tok} {N : Nat} (h : Suf lb L N) {σ τ : PS} (s : Sh N σ τ) (k : Int) (x : ByteArray) : isT L k x τ = isT lb k x σ := by
  obtain ⟨h1, h2⟩ := sh_kind h s
  rw [isT, isT, h1, h2, s.c]
theorem go_sh {N : Nat} {σ τ : PS} (s : Sh N σ τ) : Sh N (goS σ) (goS τ) := ⟨by simp only [goS]; have := s.a; omega, s.c⟩
theorem fail_sh {lb L : List Tok} {N : Nat} {σ τ : PS} (s : Sh N σ τ) (e : Int) : Sh N (failS lb e σ) (failS L e τ) := by
  unfold failS
  by_cases h0 : σ.c = 0
  · rw [if_pos h0, if_pos (by rw [s.c]; exact h0)]; exact ⟨s.a, rfl⟩
  · rw [if_neg h0, if_neg (by rw [s.c]; exact h0)]; exact s
theorem want_sh {lb L : List Tok} {N : Nat} (h : Suf lb L N) {σ τ : PS} (s : Sh N σ τ) (x : ByteArray) : Sh N (wantS lb x σ) (wantS L x τ) := by
  unfold wantS
  rw [isT_sh h s]
  split
  · exact go_sh s
  · exact fail_sh s _
theorem name_sh {lb L : List Tok} {N : Nat} (h : Suf lb L N) {σ τ : PS} (s : Sh N σ τ) (q : Bool) : Sh N (nameS lb q σ) (nameS L q τ) ∧ (nameV L q τ).text = (nameV lb q σ).text := by
  obtain ⟨h1, h2⟩ := sh_kind h s
  have hb : nameBad L q τ = nameBad lb q σ := by rw [nameBad, nameBad, h1]
  have hl : nameLong L τ = nameLong lb σ := by rw [nameLong, nameLong, h2]
  unfold nameS nameV
  rw [hb, hl, s.c]
  by_cases h0 : σ.c = 0
  · simp only [if_pos h0]
    by_cases b : nameBad lb q σ = true
    · simp only [if_pos b]; exact ⟨fail_sh s _, trivial⟩
    · simp only [if_neg b]
      by_cases g : nameLong lb σ = true
      · simp only [if_pos g]; exact ⟨fail_sh s _, trivial⟩
      · simp only [if_neg g]; exact ⟨go_sh s, h2⟩
  · simp only [if_neg h0]; exact ⟨s, trivial⟩
theorem kindStep_sh {lb L : List Tok} {N : Nat} (h : Suf lb L N) {σ τ : PS} (s : Sh N σ τ) (n : Nat) : Sh N (kindStep lb n σ) (kindStep L n τ) := by
  unfold kindStep
  split
  · exact want_sh h (fail_sh s _) _
  · exact want_sh h (go_sh s) _
theorem kindLoop_sh {lb L : List Tok} {N : Nat} (h : Suf lb L N) : ∀ (f n : Nat) {σ τ : PS}, Sh N σ τ → (kindLoop L f n τ).1 = (kindLoop lb f n σ).1 ∧ Sh N (kindLoop lb f n σ).2 (kindLoop L f n τ).2 := by
  intro f
  induction f with
  | zero => intro n σ τ s; exact ⟨rfl, s⟩
  | succ f ih =>
    intro n σ τ s
    simp only [kindLoop]
    rw [isT_sh h s]
    split
    · exact ih _ (kindStep_sh h s n)
    · exact ⟨rfl, s⟩
theorem wantN_sh {lb L : List Tok} {N : Nat} (h : Suf lb L N) (x : ByteArray) : ∀ (n : Nat) {σ τ : PS}, Sh N σ τ → Sh N (wantN lb x n σ) (wantN L x n τ) := by
  intro n
  induction n with
  | zero => intro σ τ s; exact s
  | succ n ih => intro σ τ s; simp only [wantN]; exact ih (want_sh h s x)
theorem kind_sh {lb L : List Tok} {N : Nat} (h : Suf lb L N) {σ τ : PS} (s : Sh N σ τ) : Sh N (kindS lb σ) (kindS L τ) := by
  have hk := kindLoop_sh h 5 0 s
  unfold kindS kindK
  rw [hk.1]
  exact wantN_sh h _ _ (name_sh h hk.2 false).1
theorem field_sh {lb L : List Tok} {N : Nat} (h : Suf lb L N) {σ τ : PS} (s : Sh N σ τ) : Sh N (fieldS lb σ) (fieldS L τ) := by
  have hE : Sh N (fieldE lb σ) (fieldE L τ) := kind_sh h (want_sh h (name_sh h s true).1 _)
  unfold fieldS hasDef
  rw [isT_sh h hE]
  split
  · refine want_sh h ?_ _
    have hg := go_sh hE
    unfold defS
    rw [(sh_kind h hg).1]
    split
    · exact go_sh hg
    · exact go_sh (fail_sh hg _)
  · exact want_sh h hE _
theorem item_sh {lb L : List Tok} {N : Nat} (h : Suf lb L N) {σ τ : PS} (s : Sh N σ τ) : Sh N (itemS lb σ) (itemS L τ) := by
  have hn := (name_sh h s false).1
  unfold itemS
  rw [isT_sh h hn, (sh_kind h hn).1, (sh_kind h hn).2]
  split
  · exact go_sh hn
  · split
    · exact hn
    · exact fail_sh hn _
theorem ser_sh {α : Type} {lb L : List Tok} {N : Nat} (h : Suf lb L N) {one oneL : PS → PS} {val valL : PS → α} (hm : ∀ σ, Fine lb σ → Moves lb σ (one σ)) (ho : ∀ σ τ, Sh N σ τ → Sh N (one σ) (oneL τ)) :
    ∀ (f f2 : Nat) (σ τ : PS) (acc acc2 : List α), Fine lb σ → left lb σ ≤ f → f ≤ f2 → Sh N σ τ → acc2.length = acc.length →
      Sh N (serLoop lb one val f σ acc).2 (serLoop L oneL valL f2 τ acc2).2 ∧ (serLoop L oneL valL f2 τ acc2).1.length = (serLoop lb one val f σ acc).1.length := by
  intro f
  induction f with
  | zero =>
    intro f2 σ τ acc acc2 hF hl hf s ha
    have h0 : σ.c ≠ 0 := fun e => by have := left_pos e hF; omega
    rw [serLoop_stuck _ _ h0, serLoop_stuck _ _ (by rw [s.c]; exact h0)]
    exact ⟨s, ha⟩
  | succ f ih =>
    intro f2 σ τ acc acc2 hF hl hf s ha
    obtain ⟨f2', rfl⟩ : ∃ x, f2 = x + 1 := ⟨f2 - 1, by omega⟩
    by_cases h0 : σ.c = 0
    · have h0' : τ.c = 0 := by rw [s.c]; exact h0
      simp only [serLoop, if_pos h0, if_pos h0', isT_sh h s]
      by_cases ht : isT lb 4 cClose σ = true
      · simp only [if_pos ht]
        exact ⟨go_sh s, ha⟩
      · simp only [if_neg ht]
        have hmv := hm σ hF
        exact ih f2' _ _ _ _ hmv.fine (by have := hmv.left h0 hF; omega) (by omega) (ho _ _ s) (by simp [ha])
    · rw [serLoop_stuck _ _ h0, serLoop_stuck _ _ (by rw [s.c]; exact h0)]
      exact ⟨s, ha⟩
theorem serR_sh {α : Type} {lb L : List Tok} {N : Nat} (h : Suf lb L N) {one oneL : PS → PS} {val valL : PS → α} (hm : ∀ σ, Fine lb σ → Moves lb σ (one σ)) (ho : ∀ σ τ, Sh N σ τ → Sh N (one σ) (oneL τ)) {σ τ : PS} (hF : Fine lb σ) (s : Sh N σ τ) :
    Sh N (serR lb one val σ).2 (serR L oneL valL τ).2 ∧ (serR L oneL valL τ).1.length = (serR lb one val σ).1.length := by
  unfold serR
  exact ser_sh h hm ho _ _ _ _ [] [] (wantS_moves h.ended hF).fine left_le (by have := h.len; omega) (want_sh h s _) rfl
theorem rec_sh {lb L : List Tok} {N : Nat} (h : Suf lb L N) {σ τ : PS} (hF : Fine lb σ) (s : Sh N σ τ) : Sh N (recS lb σ) (recS L τ) ∧ (recV L τ).name = (recV lb σ).name ∧ (recV L τ).fields.length = (recV lb σ).fields.length := by
  have hn := name_sh h s false
  have hs := serR_sh h (one := fieldS lb) (oneL := fieldS L) (val := fieldV lb) (valL := fieldV L) (fun σ h2 => fieldS_moves h.ended h2) (fun σ τ h2 => field_sh h h2) (nameS_moves h.ended (q := false) hF).fine hn.1
  exact ⟨hs.1, hn.2, hs.2⟩
theorem cho_sh {lb L : List Tok} {N : Nat} (h : Suf lb L N) {σ τ : PS} (hF : Fine lb σ) (s : Sh N σ τ) : Sh N (choS lb σ) (choS L τ) := by
  have hn := name_sh h s false
  exact (serR_sh h (one := itemS lb) (oneL := itemS L) (val := nameV lb false) (valL := nameV L false) (fun σ h2 => itemS_moves h.ended h2) (fun σ τ h2 => item_sh h h2) (nameS_moves h.ended (q := false) hF).fine hn.1).1
/-- r3, and behind it what r looks like -/
def Behd (r0 r r3 : RawD) : Prop := look r3 = ((look r0).1 ++ (look r).1, (look r0).2.1 + (look r).2.1, (look r0).2.2 + (look r).2.2)
theorem decl_sh {lb L : List Tok} {N : Nat} (h : Suf lb L N) {σ τ : PS} {r0 r r3 : RawD} (hF : Fine lb σ) (h0 : σ.c = 0) (hk : (hereT lb σ.a).kind ≠ 0) (s : Sh N σ τ) (hr : Behd r0 r r3) : Sh N (declS lb σ) (declS L τ) ∧ Behd r0 (declV lb σ r) (declV L τ r3) := by
  have hg := (moves_go h.ended hF h0 hk).fine
  have hr' := hr
  simp only [Behd, look, Prod.mk.injEq] at hr'
  unfold declS declV
  rw [isT_sh h s, isT_sh h s, isT_sh h s]
  by_cases t1 : isT lb 1 cStruct σ = true
  · simp only [if_pos t1]
    obtain ⟨e1, e2, e3⟩ := rec_sh h hg (go_sh s)
    exact ⟨e1, by simp [Behd, look, hr', e2, e3]⟩
  · simp only [if_neg t1]
    by_cases t2 : isT lb 1 cEnum σ = true
    · simp only [if_pos t2]
      exact ⟨cho_sh h hg (go_sh s), by simp [Behd, look, hr']; omega⟩
    · simp only [if_neg t2]
      by_cases t3 : isT lb 1 cRoot σ = true
      · simp only [if_pos t3]
        exact ⟨want_sh h (name_sh h (go_sh s) false).1 _, by simp [Behd, look, hr']; omega⟩
      · simp only [if_neg t3]
        exact ⟨fail_sh s _, hr⟩
theorem all_sh {lb L : List Tok} {N : Nat} (h : Suf lb L N) (r0 : RawD) : ∀ (f f2 : Nat) (σ τ : PS) (r r3 : RawD), Fine lb σ → left lb σ ≤ f → f ≤ f2 → Sh N σ τ → Behd r0 r r3 →
    Sh N (allLoop lb f σ r).2 (allLoop L f2 τ r3).2 ∧ Behd r0 (allLoop lb f σ r).1 (allLoop L f2 τ r3).1 := by
  intro f
  induction f with
  | zero =>
    intro f2 σ τ r r3 hF hl hf s hr
    have h0 : σ.c ≠ 0 := fun e => by have := left_pos e hF; omega
    rw [allLoop_stop (fun g => h0 g.1), allLoop_stop (fun g => h0 (by rw [← s.c]; exact g.1))]
    exact ⟨s, hr⟩
  | succ f ih =>
    intro f2 σ τ r r3 hF hl hf s hr
    obtain ⟨f2', rfl⟩ : ∃ x, f2 = x + 1 := ⟨f2 - 1, by omega⟩
    by_cases g : σ.c = 0 ∧ (hereT lb σ.a).kind ≠ 0
    · simp only [allLoop]
      rw [if_pos g, if_pos ⟨by rw [s.c]; exact g.1, by rw [(sh_kind h s).1]; exact g.2⟩]
      have hm := declS_moves h.ended hF
      obtain ⟨e1, e2⟩ := decl_sh h hF g.1 g.2 s hr
      exact ih f2' _ _ _ _ hm.fine (by have := hm.left g.1 hF; omega) (by omega) e1 e2
    · rw [allLoop_stop g, allLoop_stop (fun g2 => g ⟨by rw [← s.c]; exact g2.1, by rw [← (sh_kind h s).1]; exact g2.2⟩)]
      exact ⟨s, hr⟩

/-! ### both -/
theorem toksF_inner (s sg : ByteArray) : ∀ (n i : Nat) (l : List Tok), toksF s sg n i = .ok l → ∀ (k : Nat) (t : Tok), k + 1 < l.length → l[k]? = some t → t.kind ≠ 0 := by
  intro n
  induction n with
  | zero => intro i l h; simp [toksF] at h
  | succ n ih =>
    intro i l h k t hk ht
    simp only [toksF] at h
    split at h
    · cases h
    · split at h
      · cases h; simp at hk
      · rename_i hk0
        split at h
        · cases h
        · rename_i l' hl'
          cases h
          cases k with
          | zero => simp at ht; rw [← ht]; exact hk0
          | succ k => exact ih _ _ hl' k t (by simpa using hk) (by simpa using ht)
theorem pre_of {la lb : List Tok} {d : Nat} {s sg : ByteArray} (ha : toks s sg = .ok la) (hb : 0 < lb.length) : Pre la (la.dropLast ++ lb.map (shT d)) (la.length - 1) := by
  have hE := toks_ended ha
  have h1 := hE.1
  have hl : (la.dropLast ++ lb.map (shT d)).length = la.length - 1 + lb.length := by simp
  refine ⟨by omega, fun a h => ?_, hE, by omega, fun a h => ?_⟩
  · rw [hereT, hereT, hl, show min a (la.length - 1 + lb.length - 1) = a by omega, show min a (la.length - 1) = a by omega, List.getElem?_append_left (by simpa using h), List.getElem?_dropLast, if_pos (by omega)]
  · have hj : toksF s sg 2048 0 = .ok la := by
      unfold toks at ha
      split at ha
      · cases ha
      · exact ha
    have hlt : a < la.length := by omega
    have e : hereT la a = la[a] := by rw [hereT, show min a (la.length - 1) = a by omega, List.getElem?_eq_getElem hlt]; rfl
    rw [e]
    exact toksF_inner s sg _ _ _ hj a _ (by omega) (List.getElem?_eq_getElem hlt)
theorem suf_of {la lb : List Tok} {d : Nat} (hb : Ended lb) : Suf lb (la.dropLast ++ lb.map (shT d)) (la.length - 1) := by
  have hl : (la.dropLast ++ lb.map (shT d)).length = la.length - 1 + lb.length := by simp
  have h0 := hb.1
  refine ⟨hl, fun a => ?_, hb⟩
  rw [hereT, hereT, hl, show min (la.length - 1 + a) (la.length - 1 + lb.length - 1) = la.dropLast.length + min a (lb.length - 1) by simp; omega, List.getElem?_append_right (by omega), Nat.add_sub_cancel_left]
  have hlt : min a (lb.length - 1) < lb.length := by omega
  rw [List.getElem?_map, List.getElem?_eq_getElem hlt]
  exact ⟨rfl, rfl⟩
/-- two texts without faults, joined: as much as both, or too many tokens -/
theorem parse_join (a b : ByteArray) (ra rb : RawD) (ha : parseI a = .ok ra) (hb : parseI b = .ok rb) (hs : a.size + b.size ≤ 8191) :
    (∃ p, parseI (joinB a b) = .error (16, p)) ∨ ∃ rc, parseI (joinB a b) = .ok rc ∧ Behd ra rb rc := by
  unfold parseI at ha hb
  cases hta : toks a sgI with
  | error x => rw [hta] at ha; cases ha
  | ok la =>
    cases htb : toks b sgI with
    | error x => rw [htb] at hb; cases hb
    | ok lb =>
      rw [hta] at ha
      rw [htb] at hb
      simp only [rawOf] at ha hb
      have hca : (allR la).2.c = 0 := by
        by_cases e : (allR la).2.c = 0
        · exact e
        · rw [if_neg e] at ha; cases ha
      have hcb : (allR lb).2.c = 0 := by
        by_cases e : (allR lb).2.c = 0
        · exact e
        · rw [if_neg e] at hb; cases hb
      rw [if_pos hca] at ha
      rw [if_pos hcb] at hb
      cases ha
      cases hb
      unfold parseI
      rcases toks_join a b sgI la lb hta htb hs with ⟨p, hp⟩ | hj
      · rw [hp]; exact .inl ⟨p, rfl⟩
      · rw [hj]
        refine .inr ?_
        have hEb := toks_ended htb
        have hP := pre_of (d := a.size + 1) (lb := lb) hta hEb.1
        have hS := suf_of (la := la) (d := a.size + 1) hEb
        generalize la.dropLast ++ lb.map (shT (a.size + 1)) = L at hP hS
        have hF0 : Fine la ⟨0, 0, 0⟩ := ⟨Nat.zero_le _, fun _ => hP.ended.1⟩
        obtain ⟨f3, r3, τ, g1, g2, g3, g4, g5⟩ := all_pre hP (la.length + 1) (L.length + 1) ⟨0, 0, 0⟩ ⟨[], [], []⟩ ⟨[], [], []⟩ hF0 left_le (by have := hP.len; have := hP.more; omega) rfl hca
        have hF1 : Fine lb ⟨0, 0, 0⟩ := ⟨Nat.zero_le _, fun _ => hEb.1⟩
        have hsh := all_sh hS (allR la).1 (lb.length + 1) f3 ⟨0, 0, 0⟩ τ ⟨[], [], []⟩ r3 hF1 left_le (by have := hS.len; simp at g5; omega) ⟨by rw [g2]; simp, g3⟩ (by
          have g6 : look r3 = look (allR la).1 := g4
          simp only [Behd]; rw [g6]; simp [look])
        have hLc : (allR L).2.c = 0 := by
          have e : allR L = allLoop L f3 τ r3 := g1
          rw [e, hsh.1.c]; exact hcb
        refine ⟨(allR L).1, by simp only [rawOf]; rw [if_pos hLc], ?_⟩
        have e : allR L = allLoop L f3 τ r3 := g1
        rw [e]
        exact hsh.2

end Go.Proofs.Ytgoaiokpnifhfaa
