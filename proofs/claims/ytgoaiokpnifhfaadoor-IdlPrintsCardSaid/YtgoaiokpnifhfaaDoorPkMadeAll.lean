/-
  Parts: MadeAll, PlanLater, LawPrints.
-/
import Derived.Test.YtgoaiokpnifhfaaDoorPkMade
import Derived.Test.YtgoaiokpnifhfaaDoorPkHand
import Derived.Test.YtgoaiokpnifhfaaDoorPkSameRaw
import Derived.Test.YtgoaiokpnifhfaaDoorPkTextOk
import Derived.Test.YtgoaiokpnifhfaaDoorPkPlanOpen
import Derived.Test.YtgoaiokpnifhfaaDoorPkAwake04
import Derived.OpenShut
import Derived.Lib.ConvBytes
import Derived.Test.YtgoaiokpnifhfaaDoorTail

/-
  transomhand05.Made: of any plan.
-/
namespace Go.Proofs.YtgoaiokpnifhfaaDoor
open Go.RowKit
set_option linter.unusedVariables false
set_option linter.unusedSimpArgs false

theorem madeAll_calls (v : Value) (p : PlanD) (w : World) (hp : PlanAt w v p) : Calls Tryd.prog 15 #[v] w (MadePost w p) := by
  by_cases h : 1 ≤ p.structs.length ∧ p.structs.length ≤ 16 ∧ p.enums.length ≤ 8
  · exact made_good v p w hp h.1 h.2.1 h.2.2
  · exact made_bad v p w hp (by omega)

end Go.Proofs.YtgoaiokpnifhfaaDoor

/-
  A plan that came in is what it was behind new blocks.
-/
namespace Go.Proofs.YtgoaiokpnifhfaaDoor
open Go.RowKit
set_option linter.unusedVariables false
set_option linter.unusedSimpArgs false

theorem PListAt.later {w w' : World} {v : Value} {fs : List PField} (h : PListAt w v fs) (hb : Below w.heap.size w w') : PListAt w' v fs := by
  obtain ⟨A, c, rfl, hok, hl⟩ := h
  refine ⟨A, c, rfl, hok, fun h0 => ?_⟩
  obtain ⟨b, o, rfl, hlt, hf⟩ := hl h0
  refine ⟨b, o, rfl, Nat.lt_of_lt_of_le hlt hb.size, fun i hi => ?_⟩
  have key : ∀ j, w'.cell? ⟨b, j, none⟩ = w.cell? ⟨b, j, none⟩ := fun j => hb.cell (p := ⟨b, j, none⟩) hlt
  simp only [key]
  exact hf i hi

theorem PlanAt.later {w w' : World} {v : Value} {p : PlanD} (h : PlanAt w v p) (hb : Below w.heap.size w w') : PlanAt w' v p := by
  obtain ⟨⟨A, ce, B, cs, rfl, hE, hS⟩, hr, he⟩ := h
  refine ⟨⟨A, ce, B, cs, rfl, fun h0 => ?_, fun h0 => ?_⟩, hr, he⟩
  · obtain ⟨b, o, rfl, hlt, hc⟩ := hE h0
    refine ⟨b, o, rfl, Nat.lt_of_lt_of_le hlt hb.size, fun i hi => ?_⟩
    rw [hb.cell (p := ⟨b, o + i, none⟩) hlt]; exact hc i hi
  · obtain ⟨b, o, rfl, hlt, hc⟩ := hS h0
    refine ⟨b, o, rfl, Nat.lt_of_lt_of_le hlt hb.size, fun i hi => ?_⟩
    obtain ⟨u, hu, hp⟩ := hc i hi
    exact ⟨u, by rw [hb.cell (p := ⟨b, o + i, none⟩) hlt]; exact hu, hp.later hb⟩

end Go.Proofs.YtgoaiokpnifhfaaDoor

/-
  IdlPrints.
-/
namespace Go.Proofs.YtgoaiokpnifhfaaDoor
open Go.RowKit
set_option linter.unusedVariables false
set_option linter.unusedSimpArgs false

/-- what is told of a slice of integers that came in -/
def IsRow (k : IntKind) (w : World) (a : Option Addr) (len cap : Nat) (zs : List Int) : Prop :=
  (a = none ∧ len = 0 ∧ cap = 0 ∧ zs = []) ∨
  ∃ x, a = some x ∧ len ≤ cap ∧ cap ≤ maxLen ∧ zs.length = cap ∧ (∀ i, i < zs.length → w.cell? (x.add i) = some (.int k (zs.getD i 0))) ∧ ∀ n ∈ zs, (Lit.int k n).wf = true
theorem isRow_at {k : IntKind} {w : World} {a : Option Addr} {len cap : Nat} {zs : List Int} (h : IsRow k w a len cap zs) (h0 : 0 < len) : ∃ b o, a = some ⟨b, o, none⟩ ∧ b < w.heap.size ∧ ∀ i, i < len → w.cell? ⟨b, o + i, none⟩ = some (.int k (zs.getD i 0)) := by
  rcases h with ⟨_, e, _, _⟩ | ⟨⟨b, o, sp⟩, rfl, h1, _, h3, h4, _⟩
  · omega
  · have hc := h4 0 (by omega)
    have hs0 : w.cell? ⟨b, o, sp⟩ = some (.int k (zs.getD 0 0)) := by simpa [Addr.add] using hc
    have hsp : sp = none := by simpa using World.cell?_spot hs0
    subst hsp
    refine ⟨b, o, rfl, World.block_lt_of_cell? w _ hs0, fun i hi => ?_⟩
    have := h4 i (by omega)
    rwa [Addr.add_lit] at this

/-- bytes in a block of their own -/
structure BufAt (w : World) (G : Nat) (ns : List Int) : Prop where
  lt : G < w.heap.size
  cells : ∀ j, j < ns.length → w.cell? ⟨G, j, none⟩ = some (.int .u8 (ns.getD j 0))
  thaw : ∀ j, j < ns.length → w.frozen? ⟨G, j, none⟩ = false
theorem BufAt.put {w : World} {G : Nat} {ns : List Int} (h : BufAt w G ns) (q : Nat) (hq : q < ns.length) (x : Int) : BufAt (w.setCell ⟨G, q, none⟩ (.int .u8 x)) G (ns.set q x) := by
  refine ⟨by rw [World.size_setCell]; exact h.lt, fun j hj => ?_, fun j hj => ?_⟩
  · rw [List.length_set] at hj
    by_cases e : j = q
    · subst e
      rw [World.cell?_setCell_same _ _ _ (h.cells j hj)]
      simp [List.getD, hj]
    · have hne : (⟨G, q, none⟩ : Addr) ≠ ⟨G, j, none⟩ := fun he => e (by injection he with _ h2 _; exact h2.symm)
      rw [World.cell?_setCell_other _ _ _ _ hne, h.cells j hj]
      have : (ns.set q x).getD j 0 = ns.getD j 0 := by simp [List.getD, List.getElem?_set_ne (Ne.symm e)]
      rw [this]
  · rw [List.length_set] at hj
    rw [World.frozen?_setCell]
    exact h.thaw j hj
theorem bytesW_below (w : World) (e : TypeId) (s : ByteArray) : Below w.heap.size w (Lib.bytesWorld w e s) :=
  ⟨rfl, rfl, rfl, by rw [Lib.bytesWorld_size]; omega, fun k hk => Lib.bytesWorld_at_old w e s k hk⟩
theorem bytes_buf (w : World) (e : TypeId) (s : ByteArray) : BufAt (Lib.bytesWorld w e s) w.heap.size (s.data.toList.map fun b => (b.toNat : Int)) := by
  have hl : (s.data.toList.map fun b => (b.toNat : Int)).length = s.size := by rw [List.length_map]; exact Array.length_toList
  refine ⟨by rw [Lib.bytesWorld_size]; omega, fun j hj => ?_, fun j hj => ?_⟩
  · rw [hl] at hj
    rw [Lib.bytesWorld_cell w e s j hj]
    have hj2 : j < s.data.toList.length := by have : s.data.toList.length = s.size := Array.length_toList; omega
    simp [List.getD, hj2]
    cases s.data[j]? <;> rfl
  · rw [hl] at hj
    have h := Lib.bytesWorld_at_new w e s
    have hsz : s.size ≤ (Lib.bytesCells w e s).size := by
      have h2 : s.data.size = s.size := rfl
      simp only [Lib.bytesCells, Array.size_append, Array.size_map, h2]; omega
    simp only [World.frozen?, h]
    simp
    omega

set_option maxHeartbeats 2000000 in
set_option maxRecDepth 100000 in
theorem idlPrints_walk (v : Value) (p : PlanD) (a1 : Option Addr) (len1 cap1 : Nat) (z1 : List Int) (a2 : Option Addr) (len2 cap2 : Nat) (z2 : List Int) (w : World) (hT : Tabs w) (hp : PlanAt w v p) (hr1 : IsRow .i64 w a1 len1 cap1 z1) (hr2 : IsRow .i64 w a2 len2 cap2 z2) :
    Calls Tryd.prog 4 #[v, .slice a1 len1 cap1, .slice a2 len2 cap2] w fun e w' => e = .returned (.bool true) ∧ Below w.heap.size w w' := by
  have hfl := plan_flds hp
  obtain ⟨⟨A, ce, B, cs, rfl, hE, hS⟩, hroot, hen⟩ := hp
  have hp : PlanAt w (.agg #[.slice A p.enums.length ce, .slice B p.structs.length cs, .int .u8 p.root, .bool p.tree]) p := ⟨⟨A, ce, B, cs, rfl, hE, hS⟩, hroot, hen⟩
  have HP := Lib.hid hp
  have HT := Lib.hid hT
  have HOKS := Lib.hid (fun hok => made_sch_ok p hok hroot hen hfl)
  obtain ⟨W, hW⟩ : ∃ W, W = w.alloc (Obj.cells #[.slice A p.enums.length ce, .slice B p.structs.length cs, .int .u8 p.root, .bool p.tree] 37) := ⟨_, rfl⟩
  have hbW : Below w.heap.size w W := by rw [hW]; exact below1 _ _
  have hPB : W.heap[w.heap.size]? = some (.cells #[.slice A p.enums.length ce, .slice B p.structs.length cs, .int .u8 p.root, .bool p.tree] 37 (0, 0)) := by rw [hW]; exact blk_new _ _
  have HBW := Lib.hid hbW
  have HPB := Lib.hid hPB
  have HR1 := Lib.hid hr1
  have HR2 := Lib.hid hr2
  clear hp hE hS hen hroot hT hfl hbW hPB hr1 hr2
  go_enter Tryd.func4, Tryd.ntmps4
  go_wp2_with fail
  rw [← hW]
  obtain ⟨Q, hQ⟩ : ∃ Q, Q = w.heap.size := ⟨_, rfl⟩
  rw [← hQ] at HPB ⊢
  refine (awake04_calls W).mono ?_
  rintro e w1 ⟨rfl, hB1⟩
  have hP1 := blk_below HPB.out hB1 (blk_lt HPB.out)
  have p0 : w1.cell? ⟨Q, 0, none⟩ = _ := (blk_cell hP1 0).trans rfl
  have p1 : w1.cell? ⟨Q, 1, none⟩ = _ := (blk_cell hP1 1).trans rfl
  have p2 : w1.cell? ⟨Q, 2, none⟩ = _ := (blk_cell hP1 2).trans rfl
  have p3 : w1.cell? ⟨Q, 3, none⟩ = _ := (blk_cell hP1 3).trans rfl
  have lQ := blk_lt hP1
  have HB1 := Lib.hid (HBW.out.trans (hB1.mono HBW.out.size))
  clear hB1 hP1 hW hQ
  go_wp2_with fail
  refine (madeAll_calls _ p _ (HP.out.later HB1.out)).mono ?_
  rintro e w2 ⟨hB2, hm⟩
  have HB2 := Lib.hid (HB1.out.trans (hB2.mono HB1.out.size))
  clear hB2 p0 p1 p2 p3
  rcases hm with ⟨hno, rfl⟩ | ⟨hok, vv, rfl, hsch⟩
  · clear hno
    go_wp2_with fail
    go_ret
    exact ⟨rfl, HB2.out.trans ((below1 _ _).mono HB2.out.size)⟩
  · have hso := HOKS.out hok
    obtain ⟨aS, cS, aE, cE, rfl, hrows⟩ := schRows_of hsch
    have HSO := Lib.hid hso
    have HRO := Lib.hid hrows
    clear hok hsch hrows hso
    generalize madeP p = sch at *
    go_wp2_with fail
    refine (text_calls sch HSO.out aS aE cS cE _ (HRO.out.below (below1 _ _))).mono ?_
    rintro e w3 ⟨t, rfl, ht1, ht2, hB3⟩
    have HB3 := Lib.hid (HB2.out.trans (((below1 w2 _).trans (hB3.mono (by simp))).mono HB2.out.size))
    clear hB3
    have hcv := Lib.run_convert_string_bytes (P := Tryd.prog) w3 9 34 5 t Tryd.underlying9 Tryd.underlying34 Tryd.underlying5
    have hbb := bytesW_below w3 5 t
    have hbf := bytes_buf w3 5 t
    obtain ⟨ns0, hns0⟩ : ∃ ns, ns = t.data.toList.map fun b => (b.toNat : Int) := ⟨_, rfl⟩
    have hn0 : ns0.length = t.size := by rw [hns0, List.length_map]; exact Array.length_toList
    rw [← hns0] at hbf
    obtain ⟨wb, hwb⟩ : ∃ wb, wb = Lib.bytesWorld w3 5 t := ⟨_, rfl⟩
    rw [← hwb] at hcv hbb hbf
    generalize grownCap w3 t.size 0 5 = gc at *
    have HBF := Lib.hid hbf
    have HBB := Lib.hid hbb
    clear hns0 hwb hbb hbf
    go_wp2_with fail
    obtain ⟨G, hG⟩ : ∃ G, G = w3.heap.size := ⟨_, rfl⟩
    rw [← hG] at HBF ⊢
    have hGw : w.heap.size ≤ G := by have := HB3.out.size; omega
    have htI : (t.size : Int) ≤ 20000 := by omega
    have htI1 : (1 : Int) ≤ (t.size : Int) := by omega
    clear hG hcv
    go_loopw [10] (fun v10 wr => ∃ (i : Nat) (ns : List Int), v10 = .int .i64 (i : Int) ∧ i ≤ 4 ∧ ns.length = t.size ∧ Hid (BufAt wr G ns) ∧ Hid (Below w.heap.size w wr)) (fun v10 _ => 4 - (intOf v10).toNat)
    case atStart => exact ⟨0, ns0, rfl, by omega, hn0, HBF.out, HB3.out.trans (HBB.out.mono HB3.out.size)⟩
    case round =>
      clear hn0 HBF HBB
      obtain ⟨i, ns, rfl, hi, hns, hbf, hbw⟩ := hrel
      by_cases hgo : i < len1 ∧ i < len2 ∧ i < 4
      · obtain ⟨g1, g2, g4⟩ := hgo
        have i1 : (i : Int) < (len1 : Int) := by omega
        have i2 : (i : Int) < (len2 : Int) := by omega
        have i4 : (i : Int) < 4 := by omega
        obtain ⟨b1, o1, rfl, hb1, hc1⟩ := isRow_at HR1.out (by omega)
        obtain ⟨b2, o2, rfl, hb2, hc2⟩ := isRow_at HR2.out (by omega)
        have x1 := cell_kept (hc1 i g1) (hbw.out)
        have x2 := cell_kept (hc2 i g2) (hbw.out)
        have hws := hbw.out.size
        have l1 : b1 < wr.heap.size := by omega
        have l2 : b2 < wr.heap.size := by omega
        generalize z1.getD i 0 = m1 at *
        generalize z2.getD i 0 = m2 at *
        obtain ⟨M1, e1⟩ : ∃ M1 : Nat, IntKind.u64.wrap m1 = (M1 : Int) := ⟨(IntKind.u64.wrap m1).toNat, by rw [IntKind.wrap_u64]; omega⟩
        obtain ⟨M2, e2⟩ : ∃ M2 : Nat, IntKind.u64.wrap m2 = (M2 : Int) := ⟨(IntKind.u64.wrap m2).toNat, by rw [IntKind.wrap_u64]; omega⟩
        have hMq : M1 % t.size < t.size := Nat.mod_lt _ ht1
        obtain ⟨q, hqe⟩ : ∃ q, q = M1 % t.size := ⟨_, rfl⟩
        rw [← hqe] at hMq
        have hq : (M1 : Int) % (t.size : Int) = (q : Int) := by rw [hqe]; rfl
        have hMk : M2 % 15 < 15 := Nat.mod_lt _ (by decide)
        obtain ⟨k, hke⟩ : ∃ k, k = M2 % 15 := ⟨_, rfl⟩
        rw [← hke] at hMk
        have hk : (M2 : Int) % 15 = (k : Int) := by rw [hke]; rfl
        have hqI : (q : Int) < (t.size : Int) := Int.ofNat_lt.2 hMq
        have hkI : (k : Int) < 15 := Int.ofNat_lt.2 hMk
        have hcc : q < ns.length := by rw [hns]; exact hMq
        have y0 := hbf.out.cells q hcc
        have y1 := hbf.out.thaw q hcc
        clear hqe hke
        have lG := hbf.out.lt
        clear hc1 hc2
        go_wp2_with fail
        (have hX := SameAs.cell wr 1; refine wp_region_same_tail 19 (by kernel_rfl) (by kernel_rfl) ?_; simp only [List.take_succ_cons, List.take_zero, List.drop_succ_cons, List.drop_zero]; (repeat (go_big_quiet_step (fail))); refine wpQuiet_nil ?_; clear hX)
        go_wp2_with fail
        go_roundw
        case rel =>
          have hd : BufAt (wr.drewN 1) G ns := ⟨hbf.out.lt, hbf.out.cells, hbf.out.thaw⟩
          exact ⟨i + 1, ns.set q _, by go_num, by omega, by rw [List.length_set]; exact hns, hd.put q hcc _, (below_drewN hbw.out 1).setCell hGw _⟩
        case measure => simp [intOf]; omega
      · have hcv2 : (convert 34 9 (.slice (some ⟨G, 0, none⟩) t.size gc)).run Tryd.prog wr = .ok (.string (bytesStr ns)) wr := by
          have h := conv_bytes wr G 0 gc ns (fun j hj => by rw [Nat.zero_add]; exact hbf.out.cells j hj)
          rw [hns] at h
          exact h
        have hbz : (bytesStr ns).size ≤ 140737488351232 := by rw [bytesStr_size, hns]; omega
        have hbz2 : (bytesStr ns).size ≤ 20000 := by rw [bytesStr_size, hns]; exact ht2
        generalize bytesStr ns = b at *
        by_cases g1 : i < len1
        · have i1 : (i : Int) < (len1 : Int) := by omega
          by_cases g2 : i < len2
          · have i2 : (i : Int) < (len2 : Int) := by omega
            have i4 : decide ((i : Int) < 4) = false := decide_eq_false (fun h => hgo ⟨g1, g2, by omega⟩)
            clear hgo
            go_wp2_with fail
            refine (told04_calls b _ (HT.out.below hbw.out) hbz).mono ?_
            rintro e w4 ⟨rfl, hB4⟩
            have HB4 := Lib.hid (hbw.out.trans (hB4.mono hbw.out.size))
            clear hB4
            go_wp2_with fail
            go_ret
            exact ⟨rfl, HB4.out⟩
          · have i2 : decide ((i : Int) < (len2 : Int)) = false := decide_eq_false (by omega)
            clear hgo
            go_wp2_with fail
            refine (told04_calls b _ (HT.out.below hbw.out) hbz).mono ?_
            rintro e w4 ⟨rfl, hB4⟩
            have HB4 := Lib.hid (hbw.out.trans (hB4.mono hbw.out.size))
            clear hB4
            go_wp2_with fail
            go_ret
            exact ⟨rfl, HB4.out⟩
        · have i1 : decide ((i : Int) < (len1 : Int)) = false := decide_eq_false (by omega)
          clear hgo
          go_wp2_with fail
          refine (told04_calls b _ (HT.out.below hbw.out) hbz).mono ?_
          rintro e w4 ⟨rfl, hB4⟩
          have HB4 := Lib.hid (hbw.out.trans (hB4.mono hbw.out.size))
          clear hB4
          go_wp2_with fail
          go_ret
          exact ⟨rfl, HB4.out⟩

end Go.Proofs.YtgoaiokpnifhfaaDoor
