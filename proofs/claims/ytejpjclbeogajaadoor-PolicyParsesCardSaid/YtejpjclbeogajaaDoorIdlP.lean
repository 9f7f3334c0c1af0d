/-
  Layer 4: what the parser of schemas does with tokens, step by step, as plain functions.
-/
import Derived.Test.YtejpjclbeogajaaDoorLexT
namespace Go.Proofs.YtejpjclbeogajaaDoor
open Go.RowKit
set_option linter.unusedVariables false
set_option linter.unusedSimpArgs false

def eqS (a b : ByteArray) : Bool := a.data.toList == b.data.toList
theorem eqS_iff (a b : ByteArray) : eqS a b = true ↔ a = b := by
  rw [eqS, beq_iff_eq]
  constructor
  · intro h
    cases a with | mk x => cases b with | mk y => simp only at h; rw [Array.toList_inj.1 h]
  · intro h; rw [h]

/-- where a parser stands: its place, the first fault and that one's place -/
structure PS where
  a : Nat
  c : Int
  p : Nat

def tok0 : Tok := ⟨0, ⟨#[]⟩, 0⟩
def hereT (l : List Tok) (a : Nat) : Tok := (l[min a (l.length - 1)]?).getD tok0
def isT (l : List Tok) (k : Int) (s : ByteArray) (σ : PS) : Bool := decide (σ.c = 0) && (decide ((hereT l σ.a).kind = k) && eqS (hereT l σ.a).text s)
def goS (σ : PS) : PS := ⟨σ.a + 1, σ.c, σ.p⟩
def failS (l : List Tok) (e : Int) (σ : PS) : PS := if σ.c = 0 then ⟨σ.a, e, (hereT l σ.a).pos⟩ else σ
def takeS (l : List Tok) (k : Int) (s : ByteArray) (σ : PS) : PS := if isT l k s σ = true then goS σ else σ
def wantS (l : List Tok) (s : ByteArray) (σ : PS) : PS := if isT l 4 s σ = true then goS σ else failS l 11 σ
def nameBad (l : List Tok) (q : Bool) (σ : PS) : Bool := !decide ((hereT l σ.a).kind = 1) && !(q && decide ((hereT l σ.a).kind = 3))
def nameLong (l : List Tok) (σ : PS) : Bool := decide (40 < (hereT l σ.a).text.size) || decide ((hereT l σ.a).text.size = 0)
def nameV (l : List Tok) (q : Bool) (σ : PS) : Tok := if σ.c = 0 then (if nameBad l q σ = true then tok0 else if nameLong l σ = true then tok0 else hereT l σ.a) else tok0
def nameS (l : List Tok) (q : Bool) (σ : PS) : PS := if σ.c = 0 then (if nameBad l q σ = true then failS l 11 σ else if nameLong l σ = true then failS l 12 σ else goS σ) else σ

def cList : ByteArray := ⟨#[108, 105, 115, 116]⟩
def cLt : ByteArray := ⟨#[60]⟩
def cGt : ByteArray := ⟨#[62]⟩
def cOpen : ByteArray := ⟨#[123]⟩
def cClose : ByteArray := ⟨#[125]⟩
def cColon : ByteArray := ⟨#[58]⟩
def cSemi : ByteArray := ⟨#[59]⟩
def cEq : ByteArray := ⟨#[61]⟩
def cComma : ByteArray := ⟨#[44]⟩
def cStruct : ByteArray := ⟨#[115, 116, 114, 117, 99, 116]⟩
def cEnum : ByteArray := ⟨#[101, 110, 117, 109]⟩
def cRoot : ByteArray := ⟨#[114, 111, 111, 116]⟩

/-- one "list<" more -/
def kindStep (l : List Tok) (n : Nat) (σ : PS) : PS := wantS l cLt (if 3 < n + 1 then failS l 16 σ else goS σ)
def kindLoop (l : List Tok) : Nat → Nat → PS → Nat × PS
  | 0, n, σ => (n, σ)
  | f + 1, n, σ => if isT l 1 cList σ = true then kindLoop l f (n + 1) (kindStep l n σ) else (n, σ)
def wantN (l : List Tok) (s : ByteArray) : Nat → PS → PS
  | 0, σ => σ
  | n + 1, σ => wantN l s n (wantS l s σ)

structure RTy where
  name : ByteArray
  lists : Nat
  pos : Nat
def kindK (l : List Tok) (σ : PS) : Nat × PS := kindLoop l 5 0 σ
def kindV (l : List Tok) (σ : PS) : RTy := ⟨(nameV l false (kindK l σ).2).text, (kindK l σ).1, (hereT l σ.a).pos⟩
def kindS (l : List Tok) (σ : PS) : PS := wantN l cGt (kindK l σ).1 (nameS l false (kindK l σ).2)

structure RField where
  name : ByteArray
  pos : Nat
  ty : RTy
  df : Tok
/-- behind a field's type -/
def fieldT (l : List Tok) (σ : PS) : PS := wantS l cColon (nameS l true σ)
def fieldE (l : List Tok) (σ : PS) : PS := kindS l (fieldT l σ)
def hasDef (l : List Tok) (σ : PS) : Bool := isT l 4 cEq (fieldE l σ)
def defV (l : List Tok) (σ : PS) : Tok := if hasDef l σ = true then hereT l (goS (fieldE l σ)).a else tok0
def defS (l : List Tok) (τ : PS) : PS := goS (if (hereT l (goS τ).a).kind = 1 ∨ (hereT l (goS τ).a).kind = 2 then goS τ else failS l 11 (goS τ))
def fieldV (l : List Tok) (σ : PS) : RField := ⟨(nameV l true σ).text, (nameV l true σ).pos, kindV l (fieldT l σ), defV l σ⟩
def fieldS (l : List Tok) (σ : PS) : PS := wantS l cSemi (if hasDef l σ = true then defS l (fieldE l σ) else fieldE l σ)

/-- things between braces -/
def serLoop {α : Type} (l : List Tok) (one : PS → PS) (val : PS → α) : Nat → PS → List α → List α × PS
  | 0, σ, acc => (acc, σ)
  | f + 1, σ, acc => if σ.c = 0 then (if isT l 4 cClose σ = true then (acc, goS σ) else serLoop l one val f (one σ) (acc ++ [val σ])) else (acc, σ)
def serR {α : Type} (l : List Tok) (one : PS → PS) (val : PS → α) (σ : PS) : List α × PS := serLoop l one val (l.length + 1) (wantS l cOpen σ) []

structure RRec where
  name : ByteArray
  pos : Nat
  fields : List RField
def recV (l : List Tok) (σ : PS) : RRec := ⟨(nameV l false σ).text, (nameV l false σ).pos, (serR l (fieldS l) (fieldV l) (nameS l false σ)).1⟩
def recS (l : List Tok) (σ : PS) : PS := (serR l (fieldS l) (fieldV l) (nameS l false σ)).2

structure RChoice where
  name : ByteArray
  pos : Nat
  names : List Tok
def itemS (l : List Tok) (σ : PS) : PS :=
  if isT l 4 cComma (nameS l false σ) = true then goS (nameS l false σ)
  else if (hereT l (nameS l false σ).a).kind = 4 ∧ eqS (hereT l (nameS l false σ).a).text cClose = true then nameS l false σ else failS l 11 (nameS l false σ)
def choV (l : List Tok) (σ : PS) : RChoice := ⟨(nameV l false σ).text, (nameV l false σ).pos, (serR l (itemS l) (nameV l false) (nameS l false σ)).1⟩
def choS (l : List Tok) (σ : PS) : PS := (serR l (itemS l) (nameV l false) (nameS l false σ)).2

structure RawD where
  structs : List RRec
  enums : List RChoice
  roots : List Tok
/-- one declaration -/
def declS (l : List Tok) (σ : PS) : PS :=
  if isT l 1 cStruct σ = true then recS l (goS σ) else if isT l 1 cEnum σ = true then choS l (goS σ)
  else if isT l 1 cRoot σ = true then wantS l cSemi (nameS l false (goS σ)) else failS l 11 σ
def declV (l : List Tok) (σ : PS) (r : RawD) : RawD :=
  if isT l 1 cStruct σ = true then ⟨r.structs ++ [recV l (goS σ)], r.enums, r.roots⟩ else if isT l 1 cEnum σ = true then ⟨r.structs, r.enums ++ [choV l (goS σ)], r.roots⟩
  else if isT l 1 cRoot σ = true then ⟨r.structs, r.enums, r.roots ++ [nameV l false (goS σ)]⟩ else r
def allLoop (l : List Tok) : Nat → PS → RawD → RawD × PS
  | 0, σ, r => (r, σ)
  | f + 1, σ, r => if σ.c = 0 ∧ (hereT l σ.a).kind ≠ 0 then allLoop l f (declS l σ) (declV l σ r) else (r, σ)
def allR (l : List Tok) : RawD × PS := allLoop l (l.length + 1) ⟨0, 0, 0⟩ ⟨[], [], []⟩
def sgI : ByteArray := ⟨#[123, 125, 58, 59, 61, 44, 60, 62]⟩
def rawOf (l : List Tok) : Except (Int × Nat) RawD := if (allR l).2.c = 0 then .ok (allR l).1 else .error ((allR l).2.c, (allR l).2.p)
/-- a schema's text as it is written, or the fault -/
def parseI (s : ByteArray) : Except (Int × Nat) RawD :=
  match toks s sgI with
  | .error x => .error x
  | .ok l => rawOf l

/-! ### where the parser may stand -/
/-- tokens of a text: the last one is the end -/
def Ended (l : List Tok) : Prop := 0 < l.length ∧ ∀ a, l.length ≤ a + 1 → (hereT l a).kind = 0
def Fine (l : List Tok) (σ : PS) : Prop := σ.a ≤ l.length ∧ (σ.c = 0 → σ.a + 1 ≤ l.length)
/-- a step: where no fault is, the place has not gone back; a fault stays -/
structure Goes (l : List Tok) (σ τ : PS) : Prop where
  fine : Fine l τ
  on : τ.c = 0 → σ.c = 0 ∧ σ.a ≤ τ.a
  stuck : σ.c ≠ 0 → τ = σ
/-- a step that takes a token, or ends in a fault -/
structure Moves (l : List Tok) (σ τ : PS) : Prop extends Goes l σ τ where
  far : τ.c = 0 → σ.a < τ.a

theorem isT_kind {l : List Tok} {k : Int} {s : ByteArray} {σ : PS} (h : isT l k s σ = true) : σ.c = 0 ∧ (hereT l σ.a).kind = k ∧ (hereT l σ.a).text = s := by
  simpa [isT, eqS_iff] using h
theorem isT_fault {l : List Tok} {k : Int} {s : ByteArray} {σ : PS} (h : σ.c ≠ 0) : isT l k s σ = false := by simp [isT, h]
theorem fine_go {l : List Tok} (hE : Ended l) {σ : PS} (h : Fine l σ) (hk : (hereT l σ.a).kind ≠ 0) : Fine l (goS σ) := by
  have h1 : σ.a + 1 < l.length := by
    by_cases e : l.length ≤ σ.a + 1
    · exact absurd (hE.2 _ e) hk
    · omega
  exact ⟨by simp only [goS]; omega, fun _ => by simp only [goS]; omega⟩
theorem failS_c {l : List Tok} {e : Int} (he : e ≠ 0) (σ : PS) : (failS l e σ).c ≠ 0 := by
  unfold failS; split
  · exact he
  · assumption
theorem failS_stuck {l : List Tok} {e : Int} {σ : PS} (h : σ.c ≠ 0) : failS l e σ = σ := by unfold failS; rw [if_neg h]
theorem failS_a {l : List Tok} {e : Int} (σ : PS) : (failS l e σ).a = σ.a := by unfold failS; split <;> rfl
theorem fine_fail {l : List Tok} {e : Int} (he : e ≠ 0) {σ : PS} (h : Fine l σ) : Fine l (failS l e σ) := ⟨by rw [failS_a]; exact h.1, fun h0 => absurd h0 (failS_c he σ)⟩
theorem moves_fail {l : List Tok} {e : Int} (he : e ≠ 0) {σ : PS} (h : Fine l σ) : Moves l σ (failS l e σ) :=
  { fine := fine_fail he h, on := fun h0 => absurd h0 (failS_c he σ), stuck := fun h0 => failS_stuck h0, far := fun h0 => absurd h0 (failS_c he σ) }
theorem moves_go {l : List Tok} (hE : Ended l) {σ : PS} (h : Fine l σ) (h0 : σ.c = 0) (hk : (hereT l σ.a).kind ≠ 0) : Moves l σ (goS σ) :=
  { fine := fine_go hE h hk, on := fun _ => ⟨h0, Nat.le_succ _⟩, stuck := fun h1 => absurd h0 h1, far := fun _ => Nat.lt_succ_self _ }
theorem goes_refl {l : List Tok} {σ : PS} (h : Fine l σ) : Goes l σ σ := ⟨h, fun h0 => ⟨h0, Nat.le_refl _⟩, fun _ => rfl⟩
theorem Goes.trans {l : List Tok} {σ τ υ : PS} (h1 : Goes l σ τ) (h2 : Goes l τ υ) : Goes l σ υ :=
  ⟨h2.fine, fun h => by have a := h2.on h; have b := h1.on a.1; exact ⟨b.1, Nat.le_trans b.2 a.2⟩, fun h => by have e := h1.stuck h; subst e; exact h2.stuck h⟩
theorem Moves.trans {l : List Tok} {σ τ υ : PS} (h1 : Moves l σ τ) (h2 : Goes l τ υ) : Moves l σ υ :=
  { toGoes := h1.toGoes.trans h2, far := fun h => by have a := h2.on h; have b := h1.far a.1; omega }
theorem Goes.moves {l : List Tok} {σ τ υ : PS} (h1 : Goes l σ τ) (h2 : Moves l τ υ) : Moves l σ υ :=
  { toGoes := h1.trans h2.toGoes, far := fun h => by have a := h2.on h; have b := h1.on a.1; have c := h2.far h; omega }

theorem takeS_goes {l : List Tok} (hE : Ended l) {k : Int} (hk : k ≠ 0) {s : ByteArray} {σ : PS} (h : Fine l σ) : Goes l σ (takeS l k s σ) := by
  unfold takeS
  split
  · rename_i ht
    have := isT_kind ht
    exact (moves_go hE h this.1 (by rw [this.2.1]; exact hk)).toGoes
  · exact goes_refl h
theorem wantS_moves {l : List Tok} (hE : Ended l) {s : ByteArray} {σ : PS} (h : Fine l σ) : Moves l σ (wantS l s σ) := by
  unfold wantS
  split
  · rename_i ht
    have := isT_kind ht
    exact moves_go hE h this.1 (by rw [this.2.1]; decide)
  · exact moves_fail (by decide) h
theorem nameBad_kind {l : List Tok} {q : Bool} {σ : PS} (h : nameBad l q σ = false) : (hereT l σ.a).kind ≠ 0 := by
  intro e
  simp [nameBad, e] at h
theorem nameS_moves {l : List Tok} (hE : Ended l) {q : Bool} {σ : PS} (h : Fine l σ) : Moves l σ (nameS l q σ) := by
  unfold nameS
  split
  · rename_i h0
    split
    · exact moves_fail (by decide) h
    · split
      · exact moves_fail (by decide) h
      · rename_i hb _
        exact moves_go hE h h0 (nameBad_kind (by simpa using hb))
  · rename_i h0
    exact { fine := h, on := fun e => absurd e h0, stuck := fun _ => rfl, far := fun e => absurd e h0 }
theorem kindStep_moves {l : List Tok} (hE : Ended l) {n : Nat} {σ : PS} (h : Fine l σ) (ht : isT l 1 cList σ = true) : Moves l σ (kindStep l n σ) ∧ (3 < n + 1 → (kindStep l n σ).c ≠ 0) := by
  have hk := isT_kind ht
  unfold kindStep
  split
  · have h1 : Moves l σ (failS l 16 σ) := moves_fail (by decide) h
    have hc := failS_c (l := l) (e := 16) (by decide) σ
    have e : wantS l cLt (failS l 16 σ) = failS l 16 σ := (wantS_moves hE h1.fine).stuck hc
    rw [e]
    exact ⟨h1, fun _ => hc⟩
  · rename_i hn
    have h1 := moves_go hE h hk.1 (by rw [hk.2.1]; decide)
    exact ⟨h1.trans (wantS_moves hE h1.fine).toGoes, fun h => absurd h hn⟩
theorem kindLoop_goes {l : List Tok} (hE : Ended l) : ∀ (f n : Nat) {σ : PS}, Fine l σ → n ≤ 4 → (n = 4 → σ.c ≠ 0) → Goes l σ (kindLoop l f n σ).2 ∧ (kindLoop l f n σ).1 ≤ 4 := by
  intro f
  induction f with
  | zero => intro n σ h hn _; exact ⟨goes_refl h, hn⟩
  | succ f ih =>
    intro n σ h hn h4
    simp only [kindLoop]
    split
    · rename_i ht
      have hk := isT_kind ht
      have hn3 : n ≠ 4 := fun e => h4 e hk.1
      obtain ⟨hm, hc⟩ := kindStep_moves hE (n := n) h ht
      obtain ⟨a, b⟩ := ih (n + 1) hm.fine (by omega) (fun e => hc (by omega))
      exact ⟨hm.toGoes.trans a, b⟩
    · exact ⟨goes_refl h, hn⟩
theorem wantN_goes {l : List Tok} (hE : Ended l) {s : ByteArray} : ∀ (n : Nat) {σ : PS}, Fine l σ → Goes l σ (wantN l s n σ) := by
  intro n
  induction n with
  | zero => intro σ h; exact goes_refl h
  | succ n ih => intro σ h; have h1 := wantS_moves hE (s := s) h; exact h1.toGoes.trans (ih h1.fine)
theorem kindK_goes {l : List Tok} (hE : Ended l) {σ : PS} (h : Fine l σ) : Goes l σ (kindK l σ).2 ∧ (kindK l σ).1 ≤ 4 := kindLoop_goes hE 5 0 h (by omega) (by omega)
theorem kindS_moves {l : List Tok} (hE : Ended l) {σ : PS} (h : Fine l σ) : Moves l σ (kindS l σ) := by
  have h1 := kindK_goes hE h
  have h2 := h1.1.moves (nameS_moves hE (q := false) h1.1.fine)
  exact h2.trans (wantN_goes hE _ h2.fine)
theorem fieldT_moves {l : List Tok} (hE : Ended l) {σ : PS} (h : Fine l σ) : Moves l σ (fieldT l σ) := by
  have h1 := nameS_moves hE (q := true) h
  exact h1.trans (wantS_moves hE h1.fine).toGoes
theorem fieldE_moves {l : List Tok} (hE : Ended l) {σ : PS} (h : Fine l σ) : Moves l σ (fieldE l σ) := by
  have h1 := fieldT_moves hE h
  exact h1.trans (kindS_moves hE h1.fine).toGoes
theorem defS_moves {l : List Tok} (hE : Ended l) {τ : PS} (h : Fine l τ) (ht : isT l 4 cEq τ = true) : Moves l τ (defS l τ) := by
  have hk := isT_kind ht
  have h1 := moves_go hE h hk.1 (by rw [hk.2.1]; decide)
  unfold defS
  split
  · rename_i hd
    have h2 := moves_go hE h1.fine (show (goS τ).c = 0 from hk.1) (by rcases hd with e | e <;> rw [e] <;> decide)
    exact h1.trans h2.toGoes
  · have hc := failS_c (l := l) (e := 11) (by decide) (goS τ)
    have ha : (failS l 11 (goS τ)).a = τ.a + 1 := by rw [failS_a]; rfl
    have hf := h1.fine.2 (show (goS τ).c = 0 from hk.1)
    refine { fine := ⟨by show (failS l 11 (goS τ)).a + 1 ≤ l.length; rw [ha]; exact hf, fun e => absurd e hc⟩, on := fun e => absurd e hc, stuck := fun e => absurd hk.1 e, far := fun e => absurd e hc }
theorem fieldS_moves {l : List Tok} (hE : Ended l) {σ : PS} (h : Fine l σ) : Moves l σ (fieldS l σ) := by
  have h1 := fieldE_moves hE h
  unfold fieldS
  split
  · rename_i ht
    have h2 := defS_moves hE h1.fine ht
    exact h1.trans (h2.trans (wantS_moves hE h2.fine).toGoes).toGoes
  · exact h1.trans (wantS_moves hE h1.fine).toGoes
theorem itemS_moves {l : List Tok} (hE : Ended l) {σ : PS} (h : Fine l σ) : Moves l σ (itemS l σ) := by
  have h1 := nameS_moves hE (q := false) h
  unfold itemS
  split
  · rename_i ht
    have hk := isT_kind ht
    exact h1.trans (moves_go hE h1.fine hk.1 (by rw [hk.2.1]; decide)).toGoes
  · split
    · exact h1
    · exact h1.trans (moves_fail (by decide) h1.fine).toGoes

/-- how far it may still go -/
def left (l : List Tok) (σ : PS) : Nat := if σ.c = 0 then l.length + 1 - σ.a else 0
theorem Moves.left {l : List Tok} {σ τ : PS} (h : Moves l σ τ) (h0 : σ.c = 0) (hf : Fine l σ) : left l τ < left l σ := by
  unfold Go.Proofs.YtejpjclbeogajaaDoor.left
  rw [if_pos h0]
  have := hf.1
  split
  · rename_i h1
    have := h.far h1
    have := h.fine.1
    omega
  · omega
theorem left_pos {l : List Tok} {σ : PS} (h0 : σ.c = 0) (hf : Fine l σ) : 0 < left l σ := by
  unfold left; rw [if_pos h0]; have := hf.1; omega

theorem serLoop_goes {α : Type} {l : List Tok} (hE : Ended l) {one : PS → PS} {val : PS → α} (hone : ∀ {σ}, Fine l σ → Moves l σ (one σ)) : ∀ (f : Nat) {σ : PS} (acc : List α), Fine l σ → Goes l σ (serLoop l one val f σ acc).2 := by
  intro f
  induction f with
  | zero => intro σ acc h; exact goes_refl h
  | succ f ih =>
    intro σ acc h
    simp only [serLoop]
    split
    · split
      · rename_i h0 ht
        have hk := isT_kind ht
        exact (moves_go hE h hk.1 (by rw [hk.2.1]; decide)).toGoes
      · have h1 := hone h
        exact h1.toGoes.trans (ih _ h1.fine)
    · exact goes_refl h
theorem serLoop_stuck {α : Type} {l : List Tok} {one : PS → PS} {val : PS → α} (f : Nat) {σ : PS} (acc : List α) (h : σ.c ≠ 0) : serLoop l one val f σ acc = (acc, σ) := by
  cases f with
  | zero => rfl
  | succ f => simp only [serLoop]; rw [if_neg h]
theorem serLoop_step {α : Type} {l : List Tok} {one : PS → PS} {val : PS → α} {f : Nat} {σ : PS} (acc : List α) (hf : left l σ ≤ f) (hF : Fine l σ) (h : σ.c = 0) :
    ∃ f', f = f' + 1 ∧ serLoop l one val f σ acc = if isT l 4 cClose σ = true then (acc, goS σ) else serLoop l one val f' (one σ) (acc ++ [val σ]) := by
  have := left_pos h hF
  obtain ⟨f', rfl⟩ : ∃ f', f = f' + 1 := ⟨f - 1, by omega⟩
  refine ⟨f', rfl, ?_⟩
  simp only [serLoop]; rw [if_pos h]
theorem left_le {l : List Tok} {σ : PS} : left l σ ≤ l.length + 1 := by unfold left; split <;> omega
theorem serR_goes {α : Type} {l : List Tok} (hE : Ended l) {one : PS → PS} {val : PS → α} (hone : ∀ {σ}, Fine l σ → Moves l σ (one σ)) {σ : PS} (h : Fine l σ) : Moves l σ (serR l one val σ).2 := by
  have h1 := wantS_moves hE (s := cOpen) h
  exact h1.trans (serLoop_goes hE hone _ _ h1.fine)
theorem recS_moves {l : List Tok} (hE : Ended l) {σ : PS} (h : Fine l σ) : Moves l σ (recS l σ) := by
  have h1 := nameS_moves hE (q := false) h
  exact h1.trans (serR_goes hE (fun h => fieldS_moves hE h) h1.fine).toGoes
theorem choS_moves {l : List Tok} (hE : Ended l) {σ : PS} (h : Fine l σ) : Moves l σ (choS l σ) := by
  have h1 := nameS_moves hE (q := false) h
  exact h1.trans (serR_goes hE (fun h => itemS_moves hE h) h1.fine).toGoes
theorem declS_moves {l : List Tok} (hE : Ended l) {σ : PS} (h : Fine l σ) : Moves l σ (declS l σ) := by
  unfold declS
  split
  · rename_i ht
    have hk := isT_kind ht
    have h1 := moves_go hE h hk.1 (by rw [hk.2.1]; decide)
    exact h1.trans (recS_moves hE h1.fine).toGoes
  · split
    · rename_i ht
      have hk := isT_kind ht
      have h1 := moves_go hE h hk.1 (by rw [hk.2.1]; decide)
      exact h1.trans (choS_moves hE h1.fine).toGoes
    · split
      · rename_i ht
        have hk := isT_kind ht
        have h1 := moves_go hE h hk.1 (by rw [hk.2.1]; decide)
        have h2 := nameS_moves hE (q := false) h1.fine
        exact h1.trans (h2.trans (wantS_moves hE h2.fine).toGoes).toGoes
      · exact moves_fail (by decide) h
theorem allLoop_step {l : List Tok} {f : Nat} {σ : PS} {r : RawD} (hf : left l σ ≤ f) (hF : Fine l σ) (h : σ.c = 0) (hk : (hereT l σ.a).kind ≠ 0) :
    ∃ f', f = f' + 1 ∧ allLoop l f σ r = allLoop l f' (declS l σ) (declV l σ r) := by
  have := left_pos h hF
  obtain ⟨f', rfl⟩ : ∃ f', f = f' + 1 := ⟨f - 1, by omega⟩
  refine ⟨f', rfl, ?_⟩
  simp only [allLoop]; rw [if_pos ⟨h, hk⟩]
theorem allLoop_stop {l : List Tok} {f : Nat} {σ : PS} {r : RawD} (h : ¬ (σ.c = 0 ∧ (hereT l σ.a).kind ≠ 0)) : allLoop l f σ r = (r, σ) := by
  cases f with
  | zero => rfl
  | succ f => simp only [allLoop]; rw [if_neg h]

/-! ### a text's tokens end with the end -/
theorem toksF_last (s sg : ByteArray) : ∀ (n i : Nat) (l : List Tok), i ≤ s.size → toksF s sg n i = .ok l → 0 < l.length ∧ ∀ t, l[l.length - 1]? = some t → t.kind = 0 := by
  intro n
  induction n with
  | zero => intro i l hi h; simp [toksF] at h
  | succ n ih =>
    intro i l hi h
    have hb := behind_bd s i hi
    simp only [toksF] at h
    split at h
    · cases h
    · rename_i k t e ho
      have hbd := oneB_bd s sg _ hb.2 k t e ho
      split at h
      · rename_i hk
        cases h
        refine ⟨by simp, fun t' ht => ?_⟩
        simp at ht
        rw [← ht]; exact hk
      · rename_i hk
        split at h
        · cases h
        · rename_i l' hl'
          cases h
          have := ih e l' hbd.2.2 hl'
          refine ⟨by simp, fun t' ht => ?_⟩
          refine this.2 t' ?_
          have hl := this.1
          rw [List.length_cons, Nat.add_sub_cancel] at ht
          obtain ⟨m, hm⟩ : ∃ m, l'.length = m + 1 := ⟨l'.length - 1, by omega⟩
          rw [hm] at ht ⊢
          simpa using ht
theorem ended_of_last {l : List Tok} (h : 0 < l.length ∧ ∀ t, l[l.length - 1]? = some t → t.kind = 0) : Ended l := by
  refine ⟨h.1, fun a ha => ?_⟩
  have e : min a (l.length - 1) = l.length - 1 := by omega
  have hl : l.length - 1 < l.length := by omega
  rw [hereT, e, List.getElem?_eq_getElem hl]
  exact h.2 _ (List.getElem?_eq_getElem hl)
theorem toks_ended {s sg : ByteArray} {l : List Tok} (h : toks s sg = .ok l) : Ended l := by
  unfold toks at h
  split at h
  · cases h
  · exact ended_of_last (toksF_last s sg _ 0 l (by omega) h)

end Go.Proofs.YtejpjclbeogajaaDoor
