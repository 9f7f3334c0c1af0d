/-
  LayoutTables' question.
-/
import Derived.Test.YtlfpakopahmdiaaAsk
import Derived.Test.YtlfpakopahmdiaaRefTabled
namespace Go.Proofs.Ytlfpakopahmdiaa
open Go.RowKit
set_option linter.unusedVariables false
set_option linter.unusedSimpArgs false

theorem info_bool : (Try.prog.info? 4).map (fun i => (i.zero, i.size, i.bytes)) = some (some (.bool false), 1, 1) := by kernel_rfl

/-- a mask's bit -/
def mbit (m : Int) (j : Nat) : Bool := (bits BinOp.and IntKind.u32 (m / 2 ^ j) 1 == 1)
def mbits (m : Int) (n : Nat) : List Bool := (List.range n).map (mbit m)
theorem mbits_len (m : Int) (n : Nat) : (mbits m n).length = n := by simp [mbits]
theorem mbits_get (m : Int) (n j : Nat) (h : j < n) : bget (mbits m n) j = mbit m j := by
  unfold bget mbits; rw [getElem!_pos _ j (by simpa using h)]; simp

theorem bools_of_owned {w : World} {base : Nat} {e : TypeId} {v : Value} {n : Nat} (f : Nat → Bool) (h : w.ownsRow base e 1 v n ((List.range n).map fun j => .bool (f j))) : ∃ A c, v = .slice A n c ∧ BoolsAt w A ((List.range n).map f) := by
  rcases h.2 with ⟨rfl, h0⟩ | ⟨g, cap, cur, rfl, _, hg, _, _, _, _⟩
  · subst h0
    exact ⟨none, 0, rfl, fun h => by simp at h⟩
  · refine ⟨_, _, rfl, fun _ => ⟨g, 0, rfl, blk_lt hg, fun j hj => ?_⟩⟩
    have hj' : j < n := by simpa using hj
    have := h.cells (g := g) rfl j (.bool (f j)) (by simp [hj'])
    rw [Addr.add_lit, Nat.zero_add] at this
    rw [Nat.zero_add, this]
    unfold bget
    rw [getElem!_pos _ j hj]; simp

set_option maxHeartbeats 1000000 in
set_option maxRecDepth 100000 in
theorem ask_tables (mb : Nat) (m : Int) (hm0 : 0 ≤ m) (hm1 : m < 4294967296) : AskOk 27 #[.pointer (some ⟨mb, 0, none⟩)] (fun W => mb < W.heap.size ∧ W.cell? ⟨mb, 0, none⟩ = some (.int .u32 m)) := by
  intro vs nm b c fs W hgd hb hf ⟨hmb, hmc⟩
  have hn := hgd.2.1
  have hok : ∀ f ∈ fs, f.ok := fun f h => (hgd.2.2 f h).1
  obtain ⟨ib, hib, hzb0, hzb1, hzb2⟩ := info_parts info_bool
  clear hgd
  show Calls _ _ #[.agg vs, .agg #[.string nm, .slice (some ⟨b, 0, none⟩) fs.length c], .pointer (some ⟨mb, 0, none⟩)] _ _
  go_enter Try.func27, Try.ntmps27
  go_wp2_with fail
  have hB0 : Below W.heap.size W ((W.alloc (Obj.cells vs 33)).alloc (Obj.cells #[.string nm, .slice (some ⟨b, 0, none⟩) fs.length c] 36)) := by (repeat' (first | (with_reducible exact Below.refl _ _) | (with_reducible assumption) | (with_reducible refine Below.alloc ?_ ?_ _) | (with_reducible refine Below.drew ?_) | (with_reducible refine Below.setCell ?_ ?_ _) | (with_reducible refine Below.trans ?_ (Below.mono (by assumption) ?_)) | go_size))
  obtain ⟨W1, hW1⟩ : ∃ x, x = (W.alloc (Obj.cells vs 33)).alloc (Obj.cells #[.string nm, .slice (some ⟨b, 0, none⟩) fs.length c] 36) := ⟨_, rfl⟩
  have hR1 : W1.heap[W.heap.size + 1]? = some (.cells #[.string nm, .slice (some ⟨b, 0, none⟩) fs.length c] 36 (0, 0)) := by
    have := blk_new (W.alloc (Obj.cells vs 33)) (Obj.cells #[.string nm, .slice (some ⟨b, 0, none⟩) fs.length c] 36)
    rw [hW1]; simpa using this
  rw [← hW1] at hB0 ⊢
  clear hW1
  have hz0 := hB0.size
  have lR := blk_lt hR1
  go_loopw [6, 16] (fun v6 v16 wr => ∃ k : Nat, k ≤ fs.length ∧ v16 = .int .i64 k ∧ Below W1.heap.size W1 wr ∧ wr.ownsRow W1.heap.size 4 1 v6 k ((List.range k).map fun j => .bool (mbit m j))) (fun _ v16 _ => fs.length - (intOf v16).toNat)
  case atStart => exact ⟨0, by omega, rfl, Below.refl _ _, World.ownsRow_nil _ _ _ _⟩
  case round =>
    obtain ⟨k, hk, rfl, hJ, hown⟩ := hrel
    have hz1 := hJ.size
    by_cases hkn : k < fs.length
    · obtain ⟨r0, r1, r2, r3, r4⟩ := hf.below (hB0.trans (hJ.mono hz0)) hb k hkn
      have hfo := hok _ (fget_mem fs k hkn)
      obtain ⟨f, hfe⟩ : ∃ f, f = fget fs k := ⟨_, rfl⟩
      rw [← hfe] at r0 r1 r2 r3 r4 hfo
      have ho0 := hfo.1
      have ho1 := hfo.2
      clear hfe hfo
      rw [Nat.zero_add] at r0 r1 r2 r3 r4
      have hkI : (k : Int) < (fs.length : Int) := by omega
      have hlb : b < wr.heap.size := by omega
      have hlm : mb < wr.heap.size := by omega
      have cm : wr.cell? ⟨mb, 0, none⟩ = some (.int .u32 m) := by rw [(hB0.trans (hJ.mono hz0)).cell (p := ⟨mb, 0, none⟩) hmb]; exact hmc
      go_wp2_with (at_builtin; refine wpList_append_lies _ rfl _ _ 59 rfl W1.heap.size 4 ib (.bool false) 1 1 Try.underlying59 hib hzb0 hzb1 hzb2 rfl (by decide) _ _ _ rfl ((hown.alloc _).alloc _) ⟨wr.heap.size + 1, 0, none⟩ 1 1 [.bool (mbit m k)] rfl rfl (news_one _ _ _ _) (by simp [Value.oneCell']) (by decide) (by unfold maxLen; omega) (by omega) (by simp; omega) _ rfl ?_)
      intro g cap w2 hown2 hgr2 hat2 hlt2
      have hz2 : wr.heap.size + 1 + 1 ≤ w2.heap.size := by have := hgr2.size; simpa using this
      have hnF : some wr.heap.size ≠ u6.ownBlock := fun e => by have := (hown.lt wr.heap.size e.symm).2; omega
      have hF2 := (hgr2.block wr.heap.size (by simp; omega) hnF).trans (blk_alloc (blk_new wr _) _)
      have y0 : w2.cell? ⟨wr.heap.size, 0, none⟩ = some (.string f.name) := by rw [blk_cell hF2]; rfl
      have y1 : w2.cell? ⟨wr.heap.size, 1, none⟩ = some (.int .u8 f.kind) := by rw [blk_cell hF2]; rfl
      have y2 : w2.cell? ⟨wr.heap.size, 2, none⟩ = some (.int .i64 f.ref) := by rw [blk_cell hF2]; rfl
      have y3 : w2.cell? ⟨wr.heap.size, 3, none⟩ = some (.int .i64 f.lists) := by rw [blk_cell hF2]; rfl
      have y4 : w2.cell? ⟨wr.heap.size, 4, none⟩ = some (.int .u64 f.df) := by rw [blk_cell hF2]; rfl
      have lF2 := blk_lt hF2
      have hB2 : Below W1.heap.size W1 w2 := Below.grown ((hJ.alloc (by omega) _).alloc (by simp; omega) _) hgr2 (by simp; omega) (fun k e => (hown.lt k e).1)
      clear r0 r1 r2 r3 r4 cm hF2
      go_wp2_with fail
      have hne : (inlineOf f.kind f.lists != inlineOf f.kind f.lists) = false := by simp
      (have hX := BelowOf.cell w2; refine wp_region_below_lit (by kernel_rfl) (by kernel_rfl) ?_; (repeat (go_big_quiet_step ((first | (go_at_call 28; exact quietB (layoutInline_calls _ _ _ _ _ _)) | (go_at_call 29; exact quietB (refInline_calls _ _ _ _ _ ho0 ho1 _)))))); refine wpQuiet_nil ?_; intro _ hw'; obtain ⟨⟨wB, hB⟩, hw''⟩ := hw'; subst hw''; clear hX; have hzB := hB.size; obtain ⟨hcB, hfB⟩ := bcell hB)
      go_wp2
      go_roundw
      case rel =>
        refine ⟨k + 1, by omega, by go_num, hB2.trans (hB.mono hB2.size), ?_⟩
        rw [List.range_succ, List.map_append]
        exact ownsRow_at hown2 (fun q hq => hB.block q (hown2.lt q hq).2)
      case measure => simp [intOf]; omega
    · obtain rfl : k = fs.length := by omega
      obtain ⟨A, cA, rfl, hBA⟩ := bools_of_owned (mbit m) hown
      have hml := mbits_len m fs.length
      obtain ⟨th, hth⟩ : ∃ x, x = mbits m fs.length := ⟨_, rfl⟩
      have hBA' : BoolsAt wr A th := by rw [hth]; exact hBA
      rw [← hth] at hml
      have hc1 := fun W h1 h2 h3 => layoutTabled_calls nm b 0 c fs hn A cA th W h1 h2 h3 (by omega)
      have hc2 := fun W h1 h2 h3 => refTabled_calls nm b 0 c fs hn hok A cA th W h1 h2 h3 (by omega)
      rw [hml] at hc1 hc2
      have HC1 := Lib.hid hc1
      have HC2 := Lib.hid hc2
      have hR2 := blk_below hR1 hJ lR
      have lR2 := blk_lt hR2
      have hlb : b < wr.heap.size := by omega
      have hfr := hf.below (hB0.trans (hJ.mono hz0)) hb
      have q0 : wr.cell? ⟨W.heap.size + 1, 0, none⟩ = some (.string nm) := by rw [blk_cell hR2]; rfl
      have q1 : wr.cell? ⟨W.heap.size + 1, 1, none⟩ = some (.slice (some ⟨b, 0, none⟩) fs.length c) := by rw [blk_cell hR2]; rfl
      have hbd := tOut_bd fs th hn 4
      clear hown hBA hc1 hc2 hth hml
      go_wp2_with fail
      refine (HC1.out wr hlb hfr hBA').mono ?_
      rintro e w1 ⟨g, rfl, hg, hG, hB1⟩
      have hz2 := hB1.size
      obtain ⟨st, hst⟩ : ∃ x, x = tOut fs th 4 := ⟨_, rfl⟩
      rw [← hst] at hG hbd ⊢
      obtain ⟨sz, hsz⟩ : ∃ x, x = st.size := ⟨_, rfl⟩
      obtain ⟨al, hal⟩ : ∃ x, x = st.align := ⟨_, rfl⟩
      rw [← hsz, ← hal]
      have hR3 := blk_below hR2 hB1 lR2
      have q0' : w1.cell? ⟨W.heap.size + 1, 0, none⟩ = some (.string nm) := by rw [blk_cell hR3]; rfl
      have q1' : w1.cell? ⟨W.heap.size + 1, 1, none⟩ = some (.slice (some ⟨b, 0, none⟩) fs.length c) := by rw [blk_cell hR3]; rfl
      have lR3 := blk_lt hR3
      have HST := Lib.hid hst
      have HSZ := Lib.hid hsz
      have HAL := Lib.hid hal
      clear hst hsz hal q0 q1
      go_wp2_with fail
      obtain ⟨W2, hW2⟩ : ∃ x, x = w1.alloc (Obj.cells #[.slice (some ⟨g, 0, none⟩) fs.length fs.length, .int .i64 sz, .int .i64 al] 67) := ⟨_, rfl⟩
      have hX2 : W2.heap[w1.heap.size]? = some (.cells #[.slice (some ⟨g, 0, none⟩) fs.length fs.length, .int .i64 sz, .int .i64 al] 67 (0, 0)) := by rw [hW2]; exact blk_new _ _
      have hB12 : Below w1.heap.size w1 W2 := by rw [hW2]; exact below1 _ _
      have hB2 : Below wr.heap.size wr W2 := hB1.trans (hB12.mono hz2)
      have hG2 : W2.heap[g]? = some (.cells (st.at_.map (Value.int .i64)).toArray 3 (0, 0)) := by rw [hW2]; exact blk_alloc hG _
      rw [← hW2]
      clear hW2 q0' q1' hG
      have hz3 := hB2.size
      refine (HC2.out W2 (by omega) (hfr.below hB2 hlb) (hBA'.below hB2)).mono ?_
      rintro e w2 ⟨g2, rfl, hg2, hG3, hB3⟩
      rw [← HST.out] at hG3 ⊢
      rw [← HSZ.out, ← HAL.out]
      have lX := blk_lt hX2
      have hX3 := blk_below hX2 hB3 lX
      have hG4 := blk_below hG2 hB3 (blk_lt hG2)
      have x0 : w2.cell? ⟨w1.heap.size, 0, none⟩ = some (.slice (some ⟨g, 0, none⟩) fs.length fs.length) := by rw [blk_cell hX3]; rfl
      have x1 : w2.cell? ⟨w1.heap.size, 1, none⟩ = some (.int .i64 sz) := by rw [blk_cell hX3]; rfl
      have x2 : w2.cell? ⟨w1.heap.size, 2, none⟩ = some (.int .i64 al) := by rw [blk_cell hX3]; rfl
      have lX3 := blk_lt hX3
      have hS := fun W' (hB' : Below w2.heap.size w2 W') => sameInts_calls (some ⟨g, 0, none⟩) (some ⟨g2, 0, none⟩) fs.length fs.length st.at_ W' (by omega) ((IntsAt.of_block hG4).below hB') ((IntsAt.of_block hG3).below hB')
      rw [hbd.2.2] at hS
      have HS := Lib.hid hS
      clear hS
      have hb1 : (sz == sz) = true := beq_self_eq_true _
      have hb2 : (al == al) = true := beq_self_eq_true _
      have hz4 := hB3.size
      have hBW : Below W.heap.size W w2 := hB0.trans ((hJ.trans ((hB2.trans (hB3.mono hz3)).mono hz1)).mono hz0)
      have hzW := hBW.size
      go_wp2_with (first | (go_at_call 21; refine (HS.out _ (Below.refl _ _)).mono ?_; rintro e wB ⟨rfl, hB⟩; have hzB := hB.size; (try simp only [World.size_alloc, World.size_setCell, World.size_drew] at hzB); obtain ⟨hcB, hfB⟩ := bcell hB))
      go_ret
      exact ⟨by simp, hBW.trans (hB.mono hzW)⟩

end Go.Proofs.Ytlfpakopahmdiaa
