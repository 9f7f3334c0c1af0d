/-
  Parts: MadeAll, LawPol, WaysO, RowPolicyParses.
-/
import Derived.Test.YtejpjclbeogajaaDoorMade
import Derived.Test.YtejpjclbeogajaaDoorPkPthO
import Derived.Test.YtejpjclbeogajaaDoorPkTextOk
import Derived.Test.YtejpjclbeogajaaDoorPlanLater
import Derived.Test.YtejpjclbeogajaaDoorPlanOpen
import Derived.OpenShut
import Derived.Lib.ConvBytes
import Derived.Test.YtejpjclbeogajaaDoorTail
import Derived.Lib.SmallJoins
import Derived.Deep.Slices
import Derived.Test.YtejpjclbeogajaaDoorCards
import Derived.Test.YtejpjclbeogajaaDoorTie
import Derived.WalkKit
import Derived.ProofKit
import Derived.ShutString
import Derived.ChangeOld
import Derived.Below
import Derived.SizedLaws
import Derived.LaidMore
import Derived.LaidLaws
import Derived.PinnedBridge
import Derived.Lib.LaidU8T
import Derived.SevenTiedAt

/-
  transomhand05.Made: of any plan.
-/
namespace Go.Proofs.YtejpjclbeogajaaDoor
open Go.RowKit
set_option linter.unusedVariables false
set_option linter.unusedSimpArgs false

theorem madeAll_calls (v : Value) (p : PlanD) (w : World) (hp : PlanAt w v p) : Calls Tryd.prog 8 #[v] w (MadePost w p) := by
  by_cases h : 1 ≤ p.structs.length ∧ p.structs.length ≤ 16 ∧ p.enums.length ≤ 8
  · exact made_good v p w hp h.1 h.2.1 h.2.2
  · exact made_bad v p w hp (by omega)

end Go.Proofs.YtejpjclbeogajaaDoor

/-
  PolicyParses.
-/
namespace Go.Proofs.YtejpjclbeogajaaDoor
open Go.RowKit
open Go.Proofs.YtejpjclbeogajaaDoorP
open Go.Proofs.YtejpjclbeogajaaDoorW.PrintWords (Kd)
set_option linter.unusedVariables false
set_option linter.unusedSimpArgs false

/-- bytes in a block of their own -/
structure BufAt (w : World) (G : Nat) (ns : List Int) : Prop where
  lt : G < w.heap.size
  cells : ∀ j, j < ns.length → w.cell? ⟨G, j, none⟩ = some (.int .u8 (ns.getD j 0))
  thaw : ∀ j, j < ns.length → w.frozen? ⟨G, j, none⟩ = false
theorem BufAt.put {w : World} {G : Nat} {ns : List Int} (h : BufAt w G ns) (q : Nat) (hq : q < ns.length) (x : Int) : BufAt (w.setCell ⟨G, q, none⟩ (.int .u8 x)) G (ns.set q x) := by
  refine ⟨by rw [World.size_setCell]; exact h.lt, fun j hj => ?_, fun j hj => ?_⟩
  · rw [List.length_set] at hj
    by_cases e : j = q
    · subst e
      rw [World.cell?_setCell_same _ _ _ (h.cells j hj)]
      simp [List.getD, hj]
    · have hne : (⟨G, q, none⟩ : Addr) ≠ ⟨G, j, none⟩ := fun he => e (by injection he with _ h2 _; exact h2.symm)
      rw [World.cell?_setCell_other _ _ _ _ hne, h.cells j hj]
      have : (ns.set q x).getD j 0 = ns.getD j 0 := by simp [List.getD, List.getElem?_set_ne (Ne.symm e)]
      rw [this]
  · rw [List.length_set] at hj
    rw [World.frozen?_setCell]
    exact h.thaw j hj
theorem bytesW_below (w : World) (e : TypeId) (s : ByteArray) : Below w.heap.size w (Lib.bytesWorld w e s) :=
  ⟨rfl, rfl, rfl, by rw [Lib.bytesWorld_size]; omega, fun k hk => Lib.bytesWorld_at_old w e s k hk⟩
theorem bytes_buf (w : World) (e : TypeId) (s : ByteArray) : BufAt (Lib.bytesWorld w e s) w.heap.size (s.data.toList.map fun b => (b.toNat : Int)) := by
  have hl : (s.data.toList.map fun b => (b.toNat : Int)).length = s.size := by rw [List.length_map]; exact Array.length_toList
  refine ⟨by rw [Lib.bytesWorld_size]; omega, fun j hj => ?_, fun j hj => ?_⟩
  · rw [hl] at hj
    rw [Lib.bytesWorld_cell w e s j hj]
    have hj2 : j < s.data.toList.length := by have : s.data.toList.length = s.size := Array.length_toList; omega
    simp [List.getD, hj2]
    cases s.data[j]? <;> rfl
  · rw [hl] at hj
    have h := Lib.bytesWorld_at_new w e s
    have hsz : s.size ≤ (Lib.bytesCells w e s).size := by
      have h2 : s.data.size = s.size := rfl
      simp only [Lib.bytesCells, Array.size_append, Array.size_map, h2]; omega
    simp only [World.frozen?, h]
    simp
    omega

theorem BufAt.below {w w' : World} {G : Nat} {ns : List Int} (h : BufAt w G ns) (hb : Below w.heap.size w w') : BufAt w' G ns := by
  refine ⟨Nat.lt_of_lt_of_le h.lt hb.size, fun j hj => cell_kept (h.cells j hj) hb, fun j hj => ?_⟩
  have e := hb.block G h.lt
  rw [← h.thaw j hj]
  simp only [World.frozen?, e]
theorem BufAt.conv {w : World} {G n gc : Nat} {ns : List Int} (h : BufAt w G ns) (hn : ns.length = n) : (convert 22 9 (.slice (some ⟨G, 0, none⟩) n gc)).run Tryd.prog w = .ok (.string (bytesStr ns)) w := by
  have k := conv_bytes w G 0 gc ns (fun j hj => by rw [Nat.zero_add]; exact h.cells j hj)
  rw [hn] at k
  exact k
/-- each struct of a made schema has a field -/
theorem made_ne (p : PlanD) (hok : planOk p) : ∀ i, i < (madeP p).structs.length → 1 ≤ (rget (madeP p).structs i).fields.length := by
  intro i hi
  have hi : i < p.structs.length := by simpa [madeP] using hi
  have e : rget (madeP p).structs i = madeRecord p i := by rw [madeP, rget_map _ _ _ hi]
  rw [e]
  have el : (madeRecord p i).fields.length = (psget p.structs i).length := by simp [madeRecord, madeFields]
  rw [el]
  have hmem : psget p.structs i ∈ p.structs := by
    have e : psget p.structs i = p.structs[i] := getElem!_pos p.structs i hi
    rw [e]; exact List.getElem_mem hi
  exact (hok.2.2.2 _ hmem).1

set_option maxHeartbeats 4000000 in
set_option maxRecDepth 100000 in
theorem policyParses_walk (v : Value) (p : PlanD) (a1 : Option Addr) (len1 cap1 : Nat) (a2 : Option Addr) (len2 cap2 : Nat) (z2 : List Int) (a3 : Option Addr) (len3 cap3 : Nat) (z3 : List Int) (w : World) (hT : Tabs w) (hp : PlanAt w v p) (hr1 : WaysAt w a1 len1 ∧ len1 ≤ 9223372036854775807) (hr2 : IsRow .i64 w a2 len2 cap2 z2) (hr3 : IsRow .u8 w a3 len3 cap3 z3) :
    Calls Tryd.prog 3 #[v, .slice a1 len1 cap1, .slice a2 len2 cap2, .slice a3 len3 cap3] w fun e w' => e = .returned (.bool true) ∧ Below w.heap.size w w' := by
  have hfl := plan_flds hp
  obtain ⟨⟨A, ce, B, cs, rfl, hE, hS⟩, hroot, hen⟩ := hp
  have hp : PlanAt w (.agg #[.slice A p.enums.length ce, .slice B p.structs.length cs, .int .u8 p.root, .bool p.tree]) p := ⟨⟨A, ce, B, cs, rfl, hE, hS⟩, hroot, hen⟩
  have HP := Lib.hid hp
  have HT := Lib.hid hT
  have HOKS := Lib.hid (fun hok => made_sch_ok p hok hroot hen hfl)
  have HNES := Lib.hid (made_ne p)
  obtain ⟨W, hW⟩ : ∃ W, W = w.alloc (Obj.cells #[.slice A p.enums.length ce, .slice B p.structs.length cs, .int .u8 p.root, .bool p.tree] 25) := ⟨_, rfl⟩
  have hbW : Below w.heap.size w W := by rw [hW]; exact below1 _ _
  have hPB : W.heap[w.heap.size]? = some (.cells #[.slice A p.enums.length ce, .slice B p.structs.length cs, .int .u8 p.root, .bool p.tree] 25 (0, 0)) := by rw [hW]; exact blk_new _ _
  have HBW := Lib.hid hbW
  have HPB := Lib.hid hPB
  have HR1 := Lib.hid hr1
  have HR2 := Lib.hid hr2
  have HR3 := Lib.hid hr3
  clear hp hE hS hen hroot hT hfl hbW hPB hr1 hr2 hr3
  go_enter Tryd.func3, Tryd.ntmps3
  go_wp2_with fail
  rw [← hW]
  obtain ⟨Q, hQ⟩ : ∃ Q, Q = w.heap.size := ⟨_, rfl⟩
  rw [← hQ] at HPB ⊢
  refine (awake20_calls W).mono ?_
  rintro e w1 ⟨rfl, hB1⟩
  have hP1 := blk_below HPB.out hB1 (blk_lt HPB.out)
  have p0 : w1.cell? ⟨Q, 0, none⟩ = _ := (blk_cell hP1 0).trans rfl
  have p1 : w1.cell? ⟨Q, 1, none⟩ = _ := (blk_cell hP1 1).trans rfl
  have p2 : w1.cell? ⟨Q, 2, none⟩ = _ := (blk_cell hP1 2).trans rfl
  have p3 : w1.cell? ⟨Q, 3, none⟩ = _ := (blk_cell hP1 3).trans rfl
  have lQ := blk_lt hP1
  have HB1 := Lib.hid (HBW.out.trans (hB1.mono HBW.out.size))
  clear hB1 hP1 hW hQ
  go_wp2_with fail
  refine (madeAll_calls _ p _ (HP.out.later HB1.out)).mono ?_
  rintro e w2 ⟨hB2, hm⟩
  have HB2 := Lib.hid (HB1.out.trans (hB2.mono HB1.out.size))
  clear hB2 p0 p1 p2 p3
  rcases hm with ⟨hno, rfl⟩ | ⟨hok, vv, rfl, hsch⟩
  · clear hno
    go_wp2_with fail
    go_ret
    exact ⟨rfl, HB2.out.trans ((below1 _ _).mono HB2.out.size)⟩
  · have hso := HOKS.out hok
    have hne := HNES.out hok
    obtain ⟨aS, cS, aE, cE, rfl, hrows, hcS, hcE⟩ := schRows_of hsch
    have HSO := Lib.hid hso
    have HNE := Lib.hid hne
    have HRO := Lib.hid hrows
    have HCP := Lib.hid (And.intro hcS hcE)
    clear hok hsch hrows hso HOKS HNES hne hcS hcE
    generalize madeP p = sch at *
    obtain ⟨r0, hr0⟩ := Int.eq_ofNat_of_zero_le HSO.out.r0
    have HRT := Lib.hid (show r0 < sch.structs.length by have := HSO.out.r1; omega)
    obtain ⟨rt, hrt⟩ : ∃ rt, rt = sch.root := ⟨_, rfl⟩
    have HRE := Lib.hid (show (r0 : Int) = rt by rw [hrt, hr0])
    obtain ⟨w2b, hw2b⟩ : ∃ w2b, w2b = w2.alloc (Obj.cells #[.slice aS sch.structs.length cS, .slice aE sch.enums.length cE, .int .i64 rt] 32) := ⟨_, rfl⟩
    have hb2 : Below w2.heap.size w2 w2b := by rw [hw2b]; exact below1 _ _
    have bSB : w2b.heap[w2.heap.size]? = some (.cells #[.slice aS sch.structs.length cS, .slice aE sch.enums.length cE, .int .i64 rt] 32 (0, 0)) := by rw [hw2b]; exact blk_new _ _
    have HB2b := Lib.hid (HB2.out.trans (hb2.mono HB2.out.size))
    have hcl := polText_calls sch HSO.out HNE.out aS aE cS cE a1 len1 cap1 w2b (HRO.out.below hb2) (HR1.out.1.below HB2b.out) HR1.out.2
    rw [← hrt] at hcl
    have HCT := Lib.hid hcl
    have HRO2 := Lib.hid (HRO.out.below hb2)
    rw [← hrt]
    clear hcl hb2 hr0 hrt
    go_upto_region 6 with (fail)
    rw [← hw2b]
    obtain ⟨S, hS⟩ : ∃ S, S = w2.heap.size := ⟨_, rfl⟩
    rw [← hS] at bSB ⊢
    have s0 : w2b.cell? ⟨S, 0, none⟩ = some (.slice aS sch.structs.length cS) := by rw [blk_cell bSB]; rfl
    have s1 : w2b.cell? ⟨S, 1, none⟩ = some (.slice aE sch.enums.length cE) := by rw [blk_cell bSB]; rfl
    have s2 : w2b.cell? ⟨S, 2, none⟩ = some (.int .i64 rt) := by rw [blk_cell bSB]; rfl
    have lS := blk_lt bSB
    clear hw2b hS
    go_wp2_with fail
    refine HCT.out.mono ?_
    rintro e w3 ⟨t, rfl, ht2, hB3⟩
    have HB03 := Lib.hid (HB2b.out.trans (hB3.mono HB2b.out.size))
    have HRO3 := Lib.hid (HRO2.out.below hB3)
    have HT3 := Lib.hid (HT.out.below HB03.out)
    have HR23 := Lib.hid (isRow_below HR2.out HB03.out)
    have HR33 := Lib.hid (isRow_below HR3.out HB03.out)
    have S0 := Lib.hid (cell_kept s0 hB3)
    have S1 := Lib.hid (cell_kept s1 hB3)
    have S2 := Lib.hid (cell_kept s2 hB3)
    have HLS := Lib.hid (Nat.lt_of_lt_of_le lS hB3.size)
    clear hB3 s0 s1 s2 lS bSB
    have hcv := Lib.run_convert_string_bytes (P := Tryd.prog) w3 9 22 5 t Tryd.underlying9 Tryd.underlying22 Tryd.underlying5
    have hbb := bytesW_below w3 5 t
    have hbf := bytes_buf w3 5 t
    obtain ⟨ns0, hns0⟩ : ∃ ns, ns = t.data.toList.map fun b => (b.toNat : Int) := ⟨_, rfl⟩
    have hn0 : ns0.length = t.size := by rw [hns0, List.length_map]; exact Array.length_toList
    rw [← hns0] at hbf
    obtain ⟨wb, hwb⟩ : ∃ wb, wb = Lib.bytesWorld w3 5 t := ⟨_, rfl⟩
    rw [← hwb] at hcv hbb hbf
    generalize grownCap w3 t.size 0 5 = gc at *
    have HBF := Lib.hid hbf
    have HBB := Lib.hid hbb
    clear hns0 hwb hbb hbf
    go_wp2_with fail
    obtain ⟨G, hG⟩ : ∃ G, G = w3.heap.size := ⟨_, rfl⟩
    rw [← hG] at HBF ⊢
    have hGw : w3.heap.size ≤ G := by omega
    have htI : (t.size : Int) ≤ 20000 := by omega
    clear hG hcv
    go_loopw [12] (fun v12 wr => ∃ (i : Nat) (ns : List Int), v12 = .int .i64 (i : Int) ∧ i ≤ 3 ∧ ns.length = t.size ∧ Hid (BufAt wr G ns) ∧ Hid (Below w3.heap.size w3 wr)) (fun v12 _ => 3 - (intOf v12).toNat)
    case atStart => exact ⟨0, ns0, rfl, by omega, hn0, HBF.out, HBB.out⟩
    case round =>
      clear hn0 HBF HBB
      obtain ⟨i, ns, rfl, hi, hns, hbf, hbw⟩ := hrel
      by_cases hgo : i < len2 ∧ i < len3 ∧ i < 3 ∧ 0 < t.size
      · obtain ⟨g2, g3, g4, ht1⟩ := hgo
        have i2 : (i : Int) < (len2 : Int) := by omega
        have i3 : (i : Int) < (len3 : Int) := by omega
        have i4 : (i : Int) < 3 := by omega
        have i5 : (0 : Int) < (t.size : Int) := by omega
        obtain ⟨b2, o2, rfl, hb2, hc2⟩ := isRow_at HR23.out (by omega)
        obtain ⟨b3, o3, rfl, hb3, hc3⟩ := isRow_at HR33.out (by omega)
        have x1 := cell_kept (hc2 i g2).1 (hbw.out)
        have x2 := cell_kept (hc3 i g3).1 (hbw.out)
        have hu8 := bounds_u8 (hc3 i g3).2
        have hws := hbw.out.size
        have l1 : b2 < wr.heap.size := by omega
        have l2 : b3 < wr.heap.size := by omega
        generalize z2.getD i 0 = m1 at *
        generalize z3.getD i 0 = m2 at *
        obtain ⟨M1, e1⟩ : ∃ M1 : Nat, IntKind.u64.wrap m1 = (M1 : Int) := ⟨(IntKind.u64.wrap m1).toNat, by rw [IntKind.wrap_u64]; omega⟩
        obtain ⟨M2, rfl⟩ := Int.eq_ofNat_of_zero_le hu8.1
        have hMq : M1 % t.size < t.size := Nat.mod_lt _ ht1
        obtain ⟨q, hqe⟩ : ∃ q, q = M1 % t.size := ⟨_, rfl⟩
        rw [← hqe] at hMq
        have hq : (M1 : Int) % (t.size : Int) = (q : Int) := by rw [hqe]; rfl
        have hMk : M2 % 9 < 9 := Nat.mod_lt _ (by decide)
        obtain ⟨k, hke⟩ : ∃ k, k = M2 % 9 := ⟨_, rfl⟩
        rw [← hke] at hMk
        have hk : (M2 : Int) % 9 = (k : Int) := by rw [hke]; rfl
        have hk2 : Int.tmod (M2 : Int) 9 = (k : Int) := by rw [Int.tmod_eq_emod_of_nonneg (by omega)]; exact hk
        have hqI : (q : Int) < (t.size : Int) := Int.ofNat_lt.2 hMq
        have hkI : (k : Int) < 9 := Int.ofNat_lt.2 hMk
        have hcc : q < ns.length := by rw [hns]; exact hMq
        have y0 := hbf.out.cells q hcc
        have y1 := hbf.out.thaw q hcc
        clear hqe hke hu8
        have lG := hbf.out.lt
        clear hc2 hc3
        go_upto_region 10 with (fail)
        (have hX := SameAs.cell wr 1; refine wp_region_same_tail 18 (by kernel_rfl) (by kernel_rfl) ?_; simp only [List.take_succ_cons, List.take_zero, List.drop_succ_cons, List.drop_zero]; (repeat (go_big_quiet_step (fail))); refine wpQuiet_nil ?_; clear hX)
        go_wp2_with fail
        go_roundw
        case rel =>
          have hd : BufAt (wr.drewN 1) G ns := ⟨hbf.out.lt, hbf.out.cells, hbf.out.thaw⟩
          exact ⟨i + 1, ns.set q _, by go_num, by omega, by rw [List.length_set]; exact hns, hd.put q hcc _, (below_drewN hbw.out 1).setCell hGw _⟩
        case measure => simp [intOf]; omega
      · have hbe : ∃ b, bytesStr ns = b := ⟨_, rfl⟩
        obtain ⟨b, hbe⟩ := hbe
        have hcv2 := (hbf.out.conv (gc := gc) hns).trans (by rw [hbe])
        have hbz : b.size ≤ 140737488351232 := by rw [← hbe, bytesStr_size, hns]; omega
        have HBE := Lib.hid hbe
        clear hbe
        by_cases g1 : i < len2
        · have i1 : (i : Int) < (len2 : Int) := by omega
          by_cases g2 : i < len3
          · have i2 : (i : Int) < (len3 : Int) := by omega
            by_cases g3 : i < 3
            · have i3 : (i : Int) < 3 := by omega
              have i4 : (t.size : Int) ≤ 0 := by have := fun h => hgo ⟨g1, g2, g3, h⟩; omega
              have i5 : (t.size : Int) = 0 := by omega
              clear hgo
              have HBW := Lib.hid hbw.out
              have HBF := Lib.hid hbf.out
              have s0 := cell_kept S0.out hbw.out
              have s1 := cell_kept S1.out hbw.out
              have s2 := cell_kept S2.out hbw.out
              have lS := Nat.lt_of_lt_of_le HLS.out hbw.out.size
              have hcl := polParse_calls (recsP sch) (chosP sch) aS aE cS cE r0 (recsP_W HSO.out) (recsP_B HSO.out) (by rw [recsP_len]; exact HRT.out) b hbz wr (recs_C (HRO3.out.below hbw.out) HSO.out)
              rw [recsP_len, chosP_len, HRE.out] at hcl
              obtain ⟨kf, hkf⟩ := refPolicy_is (recsP sch) (chosP sch) r0 (recsP_W HSO.out) (recsP_B HSO.out) (by rw [recsP_len]; exact HRT.out) b hbz
              generalize polI (recsP sch) r0 b = OUT at hcl hkf
              have HCL := Lib.hid hcl
              have HKF := Lib.hid hkf
              clear hcl hkf hbw hbf
              go_wp2_with fail
              refine HCL.out.mono ?_
              intro e w5 hp
              have HB5 := Lib.hid (HBW.out.trans (hp.below.mono HBW.out.size))
              have hcv2 := ((HBF.out.below hp.below).conv (gc := gc) hns).trans (by rw [HBE.out])
              have s0 := cell_kept s0 hp.below
              have s1 := cell_kept s1 hp.below
              have s2 := cell_kept s2 hp.below
              have lS := Nat.lt_of_lt_of_le lS hp.below.size
              cases OUT with
              | none =>
                obtain rfl := hp.no rfl
                have hcl := Pf.transomref16_Policy.calls kf aS cS (recsP sch) aE cE (chosP sch) (r0 : Int) b [] 33 w5 (recs_C (HRO3.out.below HB5.out) HSO.out) (by rw [recsP_len]; exact HCP.out.1) (chos_C (HRO3.out.below HB5.out) HSO.out) (by rw [chosP_len]; exact HCP.out.2) (HT3.out.below HB5.out) HKF.out
                rw [recsP_len, chosP_len, HRE.out] at hcl
                have HCL2 := Lib.hid hcl
                clear hcl hp
                go_wp2_with fail
                refine HCL2.out.mono ?_
                rintro e w6 ⟨v0, rfl, _, hB6⟩
                have HB6 := Lib.hid (HB03.out.trans ((HB5.out.trans (hB6.mono HB5.out.size)).mono HB03.out.size))
                clear hB6 s0 s1 s2 lS hcv2
                go_wp2_with fail
                go_ret
                exact ⟨rfl, HB6.out⟩
              | some Wy =>
                obtain ⟨vp, rfl, ⟨gp, bp, mp, np, Np, rfl, _⟩⟩ := hp.yes _ rfl
                have hcl := Pf.transomref16_Policy.calls kf aS cS (recsP sch) aE cE (chosP sch) (r0 : Int) b Wy 0 w5 (recs_C (HRO3.out.below HB5.out) HSO.out) (by rw [recsP_len]; exact HCP.out.1) (chos_C (HRO3.out.below HB5.out) HSO.out) (by rw [chosP_len]; exact HCP.out.2) (HT3.out.below HB5.out) HKF.out
                rw [recsP_len, chosP_len, HRE.out] at hcl
                have HCL2 := Lib.hid hcl
                clear hcl hp
                go_wp2_with fail
                refine HCL2.out.mono ?_
                rintro e w6 ⟨v0, rfl, _, hB6⟩
                have HB6 := Lib.hid (HB03.out.trans ((HB5.out.trans (hB6.mono HB5.out.size)).mono HB03.out.size))
                clear hB6 s0 s1 s2 lS hcv2
                go_wp2_with fail
                go_ret
                exact ⟨rfl, HB6.out⟩
            · have i3 : decide ((i : Int) < 3) = false := decide_eq_false (by omega)
              clear hgo
              have HBW := Lib.hid hbw.out
              have HBF := Lib.hid hbf.out
              have s0 := cell_kept S0.out hbw.out
              have s1 := cell_kept S1.out hbw.out
              have s2 := cell_kept S2.out hbw.out
              have lS := Nat.lt_of_lt_of_le HLS.out hbw.out.size
              have hcl := polParse_calls (recsP sch) (chosP sch) aS aE cS cE r0 (recsP_W HSO.out) (recsP_B HSO.out) (by rw [recsP_len]; exact HRT.out) b hbz wr (recs_C (HRO3.out.below hbw.out) HSO.out)
              rw [recsP_len, chosP_len, HRE.out] at hcl
              obtain ⟨kf, hkf⟩ := refPolicy_is (recsP sch) (chosP sch) r0 (recsP_W HSO.out) (recsP_B HSO.out) (by rw [recsP_len]; exact HRT.out) b hbz
              generalize polI (recsP sch) r0 b = OUT at hcl hkf
              have HCL := Lib.hid hcl
              have HKF := Lib.hid hkf
              clear hcl hkf hbw hbf
              go_wp2_with fail
              refine HCL.out.mono ?_
              intro e w5 hp
              have HB5 := Lib.hid (HBW.out.trans (hp.below.mono HBW.out.size))
              have hcv2 := ((HBF.out.below hp.below).conv (gc := gc) hns).trans (by rw [HBE.out])
              have s0 := cell_kept s0 hp.below
              have s1 := cell_kept s1 hp.below
              have s2 := cell_kept s2 hp.below
              have lS := Nat.lt_of_lt_of_le lS hp.below.size
              cases OUT with
              | none =>
                obtain rfl := hp.no rfl
                have hcl := Pf.transomref16_Policy.calls kf aS cS (recsP sch) aE cE (chosP sch) (r0 : Int) b [] 33 w5 (recs_C (HRO3.out.below HB5.out) HSO.out) (by rw [recsP_len]; exact HCP.out.1) (chos_C (HRO3.out.below HB5.out) HSO.out) (by rw [chosP_len]; exact HCP.out.2) (HT3.out.below HB5.out) HKF.out
                rw [recsP_len, chosP_len, HRE.out] at hcl
                have HCL2 := Lib.hid hcl
                clear hcl hp
                go_wp2_with fail
                refine HCL2.out.mono ?_
                rintro e w6 ⟨v0, rfl, _, hB6⟩
                have HB6 := Lib.hid (HB03.out.trans ((HB5.out.trans (hB6.mono HB5.out.size)).mono HB03.out.size))
                clear hB6 s0 s1 s2 lS hcv2
                go_wp2_with fail
                go_ret
                exact ⟨rfl, HB6.out⟩
              | some Wy =>
                obtain ⟨vp, rfl, ⟨gp, bp, mp, np, Np, rfl, _⟩⟩ := hp.yes _ rfl
                have hcl := Pf.transomref16_Policy.calls kf aS cS (recsP sch) aE cE (chosP sch) (r0 : Int) b Wy 0 w5 (recs_C (HRO3.out.below HB5.out) HSO.out) (by rw [recsP_len]; exact HCP.out.1) (chos_C (HRO3.out.below HB5.out) HSO.out) (by rw [chosP_len]; exact HCP.out.2) (HT3.out.below HB5.out) HKF.out
                rw [recsP_len, chosP_len, HRE.out] at hcl
                have HCL2 := Lib.hid hcl
                clear hcl hp
                go_wp2_with fail
                refine HCL2.out.mono ?_
                rintro e w6 ⟨v0, rfl, _, hB6⟩
                have HB6 := Lib.hid (HB03.out.trans ((HB5.out.trans (hB6.mono HB5.out.size)).mono HB03.out.size))
                clear hB6 s0 s1 s2 lS hcv2
                go_wp2_with fail
                go_ret
                exact ⟨rfl, HB6.out⟩
          · have i2 : decide ((i : Int) < (len3 : Int)) = false := decide_eq_false (by omega)
            clear hgo
            have HBW := Lib.hid hbw.out
            have HBF := Lib.hid hbf.out
            have s0 := cell_kept S0.out hbw.out
            have s1 := cell_kept S1.out hbw.out
            have s2 := cell_kept S2.out hbw.out
            have lS := Nat.lt_of_lt_of_le HLS.out hbw.out.size
            have hcl := polParse_calls (recsP sch) (chosP sch) aS aE cS cE r0 (recsP_W HSO.out) (recsP_B HSO.out) (by rw [recsP_len]; exact HRT.out) b hbz wr (recs_C (HRO3.out.below hbw.out) HSO.out)
            rw [recsP_len, chosP_len, HRE.out] at hcl
            obtain ⟨kf, hkf⟩ := refPolicy_is (recsP sch) (chosP sch) r0 (recsP_W HSO.out) (recsP_B HSO.out) (by rw [recsP_len]; exact HRT.out) b hbz
            generalize polI (recsP sch) r0 b = OUT at hcl hkf
            have HCL := Lib.hid hcl
            have HKF := Lib.hid hkf
            clear hcl hkf hbw hbf
            go_wp2_with fail
            refine HCL.out.mono ?_
            intro e w5 hp
            have HB5 := Lib.hid (HBW.out.trans (hp.below.mono HBW.out.size))
            have hcv2 := ((HBF.out.below hp.below).conv (gc := gc) hns).trans (by rw [HBE.out])
            have s0 := cell_kept s0 hp.below
            have s1 := cell_kept s1 hp.below
            have s2 := cell_kept s2 hp.below
            have lS := Nat.lt_of_lt_of_le lS hp.below.size
            cases OUT with
            | none =>
              obtain rfl := hp.no rfl
              have hcl := Pf.transomref16_Policy.calls kf aS cS (recsP sch) aE cE (chosP sch) (r0 : Int) b [] 33 w5 (recs_C (HRO3.out.below HB5.out) HSO.out) (by rw [recsP_len]; exact HCP.out.1) (chos_C (HRO3.out.below HB5.out) HSO.out) (by rw [chosP_len]; exact HCP.out.2) (HT3.out.below HB5.out) HKF.out
              rw [recsP_len, chosP_len, HRE.out] at hcl
              have HCL2 := Lib.hid hcl
              clear hcl hp
              go_wp2_with fail
              refine HCL2.out.mono ?_
              rintro e w6 ⟨v0, rfl, _, hB6⟩
              have HB6 := Lib.hid (HB03.out.trans ((HB5.out.trans (hB6.mono HB5.out.size)).mono HB03.out.size))
              clear hB6 s0 s1 s2 lS hcv2
              go_wp2_with fail
              go_ret
              exact ⟨rfl, HB6.out⟩
            | some Wy =>
              obtain ⟨vp, rfl, ⟨gp, bp, mp, np, Np, rfl, _⟩⟩ := hp.yes _ rfl
              have hcl := Pf.transomref16_Policy.calls kf aS cS (recsP sch) aE cE (chosP sch) (r0 : Int) b Wy 0 w5 (recs_C (HRO3.out.below HB5.out) HSO.out) (by rw [recsP_len]; exact HCP.out.1) (chos_C (HRO3.out.below HB5.out) HSO.out) (by rw [chosP_len]; exact HCP.out.2) (HT3.out.below HB5.out) HKF.out
              rw [recsP_len, chosP_len, HRE.out] at hcl
              have HCL2 := Lib.hid hcl
              clear hcl hp
              go_wp2_with fail
              refine HCL2.out.mono ?_
              rintro e w6 ⟨v0, rfl, _, hB6⟩
              have HB6 := Lib.hid (HB03.out.trans ((HB5.out.trans (hB6.mono HB5.out.size)).mono HB03.out.size))
              clear hB6 s0 s1 s2 lS hcv2
              go_wp2_with fail
              go_ret
              exact ⟨rfl, HB6.out⟩
        · have i1 : decide ((i : Int) < (len2 : Int)) = false := decide_eq_false (by omega)
          clear hgo
          have HBW := Lib.hid hbw.out
          have HBF := Lib.hid hbf.out
          have s0 := cell_kept S0.out hbw.out
          have s1 := cell_kept S1.out hbw.out
          have s2 := cell_kept S2.out hbw.out
          have lS := Nat.lt_of_lt_of_le HLS.out hbw.out.size
          have hcl := polParse_calls (recsP sch) (chosP sch) aS aE cS cE r0 (recsP_W HSO.out) (recsP_B HSO.out) (by rw [recsP_len]; exact HRT.out) b hbz wr (recs_C (HRO3.out.below hbw.out) HSO.out)
          rw [recsP_len, chosP_len, HRE.out] at hcl
          obtain ⟨kf, hkf⟩ := refPolicy_is (recsP sch) (chosP sch) r0 (recsP_W HSO.out) (recsP_B HSO.out) (by rw [recsP_len]; exact HRT.out) b hbz
          generalize polI (recsP sch) r0 b = OUT at hcl hkf
          have HCL := Lib.hid hcl
          have HKF := Lib.hid hkf
          clear hcl hkf hbw hbf
          go_wp2_with fail
          refine HCL.out.mono ?_
          intro e w5 hp
          have HB5 := Lib.hid (HBW.out.trans (hp.below.mono HBW.out.size))
          have hcv2 := ((HBF.out.below hp.below).conv (gc := gc) hns).trans (by rw [HBE.out])
          have s0 := cell_kept s0 hp.below
          have s1 := cell_kept s1 hp.below
          have s2 := cell_kept s2 hp.below
          have lS := Nat.lt_of_lt_of_le lS hp.below.size
          cases OUT with
          | none =>
            obtain rfl := hp.no rfl
            have hcl := Pf.transomref16_Policy.calls kf aS cS (recsP sch) aE cE (chosP sch) (r0 : Int) b [] 33 w5 (recs_C (HRO3.out.below HB5.out) HSO.out) (by rw [recsP_len]; exact HCP.out.1) (chos_C (HRO3.out.below HB5.out) HSO.out) (by rw [chosP_len]; exact HCP.out.2) (HT3.out.below HB5.out) HKF.out
            rw [recsP_len, chosP_len, HRE.out] at hcl
            have HCL2 := Lib.hid hcl
            clear hcl hp
            go_wp2_with fail
            refine HCL2.out.mono ?_
            rintro e w6 ⟨v0, rfl, _, hB6⟩
            have HB6 := Lib.hid (HB03.out.trans ((HB5.out.trans (hB6.mono HB5.out.size)).mono HB03.out.size))
            clear hB6 s0 s1 s2 lS hcv2
            go_wp2_with fail
            go_ret
            exact ⟨rfl, HB6.out⟩
          | some Wy =>
            obtain ⟨vp, rfl, ⟨gp, bp, mp, np, Np, rfl, _⟩⟩ := hp.yes _ rfl
            have hcl := Pf.transomref16_Policy.calls kf aS cS (recsP sch) aE cE (chosP sch) (r0 : Int) b Wy 0 w5 (recs_C (HRO3.out.below HB5.out) HSO.out) (by rw [recsP_len]; exact HCP.out.1) (chos_C (HRO3.out.below HB5.out) HSO.out) (by rw [chosP_len]; exact HCP.out.2) (HT3.out.below HB5.out) HKF.out
            rw [recsP_len, chosP_len, HRE.out] at hcl
            have HCL2 := Lib.hid hcl
            clear hcl hp
            go_wp2_with fail
            refine HCL2.out.mono ?_
            rintro e w6 ⟨v0, rfl, _, hB6⟩
            have HB6 := Lib.hid (HB03.out.trans ((HB5.out.trans (hB6.mono HB5.out.size)).mono HB03.out.size))
            clear hB6 s0 s1 s2 lS hcv2
            go_wp2_with fail
            go_ret
            exact ⟨rfl, HB6.out⟩

end Go.Proofs.YtejpjclbeogajaaDoor

/-
  Ways that came in, as the row reads them.
-/
namespace Go.Proofs.YtejpjclbeogajaaDoor
open Go.RowKit Go.ChangeShapes Go.WideShapes Go.Deep Go.Joins
set_option linter.unusedVariables false
set_option linter.unusedSimpArgs false

set_option maxRecDepth 100000 in
theorem bytes_open {H : Type} {enc : TypeId × Value → H} {w : World} {base n : Nat} {held : Bool} {v : Value} {y : DataW H × List MemPlace}
    (h : DataW.trod enc Tryd.prog w base (fun _ => true) held n 22 [v] = some y) : ∃ a n c zs, v = .slice a n c ∧ IsRow .u8 w a n c zs := by
  rcases open_ints Tryd.underlying22 Tryd.underlying5 (by kernel_rfl) h with ⟨hcs, _⟩ | ⟨x, l, c, zs, hcs, _, hl, hm, hz, _, hcell, hwz⟩
  · simp only [List.cons.injEq, and_true] at hcs
    exact ⟨none, 0, 0, [], hcs, .inl ⟨rfl, rfl, rfl, rfl⟩⟩
  · simp only [List.cons.injEq, and_true] at hcs
    exact ⟨some x, l, c, zs, hcs, .inr ⟨x, rfl, hl, hm, by simpa using hz, hcell, hwz⟩⟩
set_option maxRecDepth 100000 in
theorem ways_open {H : Type} {enc : TypeId × Value → H} {w : World} {base : Nat} {held : Bool} {a : Option Addr} {len cap : Nat} {d : DataW H} {ps : List MemPlace}
    (hd : DataW.Trod enc Tryd.prog w base (fun _ => true) held 26 (.slice a len cap) d ps) : WaysAt w a len ∧ len ≤ 9223372036854775807 := by
  obtain ⟨fuel, hf⟩ := hd
  have hf : DataW.trod enc Tryd.prog w base (fun _ => true) held fuel 26 [.slice a len cap] = some (d, ps) := hf
  rcases open_slice1 Tryd.underlying26 (by kernel_rfl) hf with ⟨hcs, _⟩ | ⟨x, l, c, m, n', V, D, Pl, hcs, _, hl, hm, hmm, _, hx⟩
  · simp at hcs
    obtain ⟨rfl, rfl, rfl⟩ := hcs
    exact ⟨fun h => absurd h (by omega), by omega⟩
  · simp at hcs
    obtain ⟨rfl, rfl, rfl⟩ := hcs
    have hlm : len ≤ m := by rw [hmm]; simpa using hl
    have hmx : maxLen ≤ 9223372036854775807 := by decide
    refine ⟨fun h0 => ?_, by omega⟩
    obtain ⟨b, o, spot⟩ := x
    obtain ⟨a0, n0, c0, z0, hV, _⟩ := bytes_open (hx 0 (by omega)).2
    have hs0 : w.cell? ⟨b, o, spot⟩ = some (.slice a0 n0 c0) := by have := (hx 0 (by omega)).1; rw [hV] at this; simpa [Addr.add] using this
    have hspot : spot = none := by simpa using World.cell?_spot hs0
    subst hspot
    refine ⟨b, o, rfl, World.block_lt_of_cell? w _ hs0, fun i hi => ?_⟩
    obtain ⟨a1, n1, c1, z1, hV1, hrow⟩ := bytes_open (hx i (by omega)).2
    have hc := (hx i (by omega)).1
    rw [Addr.add_lit, hV1] at hc
    exact ⟨a1, n1, c1, z1, hc, hrow⟩

end Go.Proofs.YtejpjclbeogajaaDoor

/-
  The statement PolicyParses: for every input the law returns true, and its arguments read afterwards as they read before. No condition.
-/
namespace Go.Proofs.YtejpjclbeogajaaDoor.policyParses
open Go.ChangeShapes Go.WideShapes Go.ChangeAt Go.RowKit
open Go.ChangeMaps (open_string shut_string)
set_option linter.unusedVariables false
theorem own : ownKnob Tryd.prog.godebug = none := by kernel_rfl
theorem laidOut : laidOutB Tryd.prog = true := by kernel_rfl
def ren : Go.Shelf.Ren := ⟨fun n => n, fun | 5 => 5 | 119 => 234 | 138 => 236 | 139 => 237 | n => n, fun | 3 => 1 | 4 => 2 | n => n⟩
theorem types : U8Types Tryd.prog ren := ⟨Tryd.underlying5, Tryd.underlying234, Tryd.underlying236, Tryd.underlying237⟩
theorem extra : U8Extra Tryd.prog ren := ⟨by kernel_rfl, by kernel_rfl, by kernel_rfl, by kernel_rfl, by kernel_rfl, by kernel_rfl, by kernel_rfl⟩
/-- the two tables in a world -/
noncomputable def laidWorld (os : Os) : World :=
  let w0 := World.holding Tryd.prog os ⟨#[], #[], []⟩
  let put (h : Array Obj) (g : Nat) (cs : Array Value) : Array Obj := h.modify g fun
    | .cells _ t frozen => .cells cs t frozen
    | o => o
  let h1 := put w0.heap 1 (Lib.firstTab.map fun z => Value.int .u8 z).toArray
  let h2 := put h1 2 ((List.range 16).flatMap fun i => [Value.int .u8 (Lib.accLo i), Value.int .u8 (Lib.accHi i)]).toArray
  { w0 with heap := h2 }
theorem laid_met (os : Os) (args : Array Value) : laidMetH Tryd.prog Rows.policyParsesRow.laid ((laidWorld os).forCall (fun _ _ => 0) ⟨#[], args, []⟩).memory := by
  rw [MakeChecks.laidMetH_plain _ _ _ (by kernel_rfl)]
  exact laidMet_of_run' 300 (by kernel_rfl) (by kernel_rfl)
theorem tabs_of {W : World} (h : laidMetH Tryd.prog Rows.policyParsesRow.laid W) : Tabs W := by
  rw [MakeChecks.laidMetH_plain _ _ _ (by kernel_rfl)] at h
  have h1 := Lib.laidMet.reads h (.tail _ (.head _))
  have h2 := Lib.laidMet.reads h (.head _)
  rw [show (Rows.laid_unicode_utf8_first : DataW Unit) = Lib.firstData from Pinned.utf8First_eq] at h1
  exact utf8Tabs_of_readsT (ρ := ren) types extra h1 h2
set_option maxRecDepth 100000 in
theorem lifted (os : Os) (started : os.Started) (H : Type) (enc : TypeId × Value → H) :
    ReturnsInHanded {} Tryd.checked os 3 .any (fun w args => (Rows.policyParsesSpec.pre enc Tryd.prog Tryd.f3 [] false w args ∧ laidMetH Tryd.prog Rows.policyParsesRow.laid w) ∧ sizedMet enc Tryd.prog Tryd.f3 (OpenSpec.ofChange Rows.policyParsesSpec) false w args) (Rows.policyParsesSpec.post enc Tryd.prog Tryd.f3 false true false false) := by
  refine returnsInHanded_of_change_and (C := Tryd.checked) (X := fun w _ => laidMetH Tryd.prog Rows.policyParsesRow.laid w) (fun _ _ _ hh h => h.of_heap hh) own started (by kernel_rfl) Tryd.func3
    (ChangeSpec.witness_shaped (enc := enc) (C := Tryd.checked) (os := os) (X := fun w _ => laidMetH Tryd.prog Rows.policyParsesRow.laid w) false (laidWorld os) #[.agg #[.slice none 0 0, .slice none 0 0, .int .u8 0, .bool false], .slice none 0 0, .slice none 0 0, .slice none 0 0] 8 rfl (World.shaped_of_RefB (by kernel_rfl) (by kernel_rfl)) (by kernel_rfl) (by kernel_rfl) (by kernel_rfl) (laid_met os _)) ?_
  intro W base args ds gs before hval0 hW hcnd hsz0 hL _
  have htab : Tabs W := tabs_of hL
  clear hL
  have hsz : (DataW.weightsEach Tryd.prog (Tryd.f3.params.toList ++ Rows.policyParsesSpec.plain.varTypes Tryd.prog) (ds ++ gs)).all (· ≤ reachBytes) = true := hsz0
  have hval : ∀ (j : Nat) t v, Tryd.f3.params[j]? = some t → args[j]? = some v → Value.okWide Tryd.prog W .any base t v := hval0
  have hW' := hW
  obtain ⟨p, q, hA0, hV, rfl, hfz, hnd⟩ := hW
  have hA : DataW.TrodAll enc Tryd.prog W 0 (fun _ => true) true Tryd.f3.params.toList args.toList ds p := hA0
  rw [Tryd.params3] at hA hval hsz
  obtain ⟨v0, vs0, d0, ds0, p0, q0, hargs, rfl, rfl, h0, r0⟩ := trodAll_cons hA
  obtain ⟨v1, vs1, d1, ds1, p1, q1, rfl, rfl, rfl, h1, r1⟩ := trodAll_cons r0
  obtain ⟨v2, vs2, d2, ds2, p2, q2, rfl, rfl, rfl, h2, r2⟩ := trodAll_cons r1
  obtain ⟨v3, vs3, d3, ds3, p3, q3, rfl, rfl, rfl, h3, r3⟩ := trodAll_cons r2
  obtain ⟨rfl, rfl, rfl⟩ := trodAll_nil r3
  obtain rfl : args = #[v0, v1, v2, v3] := by cases args; simp_all
  obtain ⟨rfl, rfl⟩ := trodVars_none hV
  have k0 := h0
  have lt0 : ∀ x ∈ p0, x.block < W.heap.size := by obtain ⟨m, hm⟩ := k0; exact DataW.trod_lt m _ _ _ hm
  obtain ⟨z0, w0⟩ := plan_open (v := v0) (hval 0 25 v0 rfl rfl) h0
  obtain ⟨a1, len1, cap1, rfl⟩ := okWide_slice Tryd.underlying26 (hval 1 26 v1 rfl rfl)
  have k1 := h1
  have lt1 : ∀ x ∈ p1, x.block < W.heap.size := by obtain ⟨m, hm⟩ := k1; exact DataW.trod_lt m _ _ _ hm
  have w1 := ways_open h1
  obtain ⟨a2, len2, cap2, rfl⟩ := okWide_slice Tryd.underlying27 (hval 2 27 v2 rfl rfl)
  have k2 := h2
  have lt2 : ∀ x ∈ p2, x.block < W.heap.size := by obtain ⟨m, hm⟩ := k2; exact DataW.trod_lt m _ _ _ hm
  obtain ⟨z2, w2⟩ : ∃ zs, IsRow .i64 W a2 len2 cap2 zs := by
    obtain ⟨fuel, hf⟩ := h2
    rcases open_ints Tryd.underlying27 Tryd.underlying3 (by kernel_rfl) hf with ⟨hcs, _⟩ | ⟨x, l, c, zs, hcs, _, hl, hm, hz, _, hcell, hwz⟩
    · simp [Value.cells] at hcs
      obtain ⟨rfl, rfl, rfl⟩ := hcs
      exact ⟨[], .inl ⟨rfl, rfl, rfl, rfl⟩⟩
    · simp [Value.cells] at hcs
      obtain ⟨rfl, rfl, rfl⟩ := hcs
      exact ⟨zs, .inr ⟨_, rfl, hl, hm, by simpa using hz, hcell, hwz⟩⟩
  obtain ⟨a3, len3, cap3, rfl⟩ := okWide_slice Tryd.underlying22 (hval 3 22 v3 rfl rfl)
  have k3 := h3
  have lt3 : ∀ x ∈ p3, x.block < W.heap.size := by obtain ⟨m, hm⟩ := k3; exact DataW.trod_lt m _ _ _ hm
  obtain ⟨z3, w3⟩ : ∃ zs, IsRow .u8 W a3 len3 cap3 zs := by
    obtain ⟨fuel, hf⟩ := h3
    rcases open_ints Tryd.underlying22 Tryd.underlying5 (by kernel_rfl) hf with ⟨hcs, _⟩ | ⟨x, l, c, zs, hcs, _, hl, hm, hz, _, hcell, hwz⟩
    · simp [Value.cells] at hcs
      obtain ⟨rfl, rfl, rfl⟩ := hcs
      exact ⟨[], .inl ⟨rfl, rfl, rfl, rfl⟩⟩
    · simp [Value.cells] at hcs
      obtain ⟨rfl, rfl, rfl⟩ := hcs
      exact ⟨zs, .inr ⟨_, rfl, hl, hm, by simpa using hz, hcell, hwz⟩⟩
  clear hA0 hval0 hsz0 hsz
  refine (policyParses_walk v0 z0 a1 len1 cap1 a2 len2 cap2 z2 a3 len3 cap3 z3 W htab w0 w1 w2 w3).mono fun e W' ⟨he, bel⟩ => ?_
  subst he
  exact ⟨_, rfl, _, _, _, [], _, [], hW', trodAll_mk1 (shut_bool Tryd.underlying4 _), (trodAll_cons_mk (Below.trod laidOut (by kernel_rfl) (of_decide_eq_true (by kernel_rfl)) k0 bel lt0) (trodAll_cons_mk (Below.trod laidOut (by kernel_rfl) (of_decide_eq_true (by kernel_rfl)) k1 bel lt1) (trodAll_cons_mk (Below.trod laidOut (by kernel_rfl) (of_decide_eq_true (by kernel_rfl)) k2 bel lt2) (trodAll_cons_mk (Below.trod laidOut (by kernel_rfl) (of_decide_eq_true (by kernel_rfl)) k3 bel lt3) trodAll_mk0)))), rfl, bel.frame _, fun h => by cases h⟩
theorem over : Rows.policyParsesRow.holds Tryd.pinned (OpenSpec.ofChange Rows.policyParsesSpec) :=
  OpenClaim.holds_of_wide 3 Tryd.f3 rfl rfl rfl rfl rfl rfl rfl ⟨rfl, rfl, rfl, rfl, rfl⟩ rfl rfl rfl rfl rfl (by kernel_rfl) Tryd.func3 (by kernel_rfl)
    (of_decide_eq_true (by kernel_rfl)) (by unfold Func.isWrapper; first | (rw [if_pos (by decide +kernel)]; kernel_rfl) | (rw [if_neg (by decide +kernel)]; exact ⟨rfl, rfl⟩))
    (fun os started H enc _ => lifted os started H enc)
theorem said : Rows.PolicyParsesSaid := over
theorem proved : Rows.PolicyParsesCardSaid :=
  Claim7.holds_tied_plain_at .later [] [.data, .pinned] true (true, "f324322ed6c3bba045437096daf8b82990eb5616f038a5935c09b24b6e467997") false
    said (fun _ h => by cases h) (by kernel_rfl) (fun _ h => by cases h) policyParses_row_tie rfl ⟨rfl, rfl⟩ (by kernel_rfl) rfl
    (fun f fn hf hfn => by
      obtain rfl : f = 3 := Option.some.inj ((show Tryd.prog.funcNamed "transom/transomlaw20.PolicyParses" = some 3 by kernel_rfl).symm.trans hf) |>.symm
      obtain rfl : fn = Tryd.f3 := (Option.some.inj (Tryd.func3.symm.trans hfn)).symm
      exact ⟨by kernel_rfl, fun j t ht => by
        rw [Tryd.params3] at ht
        have hm : t ∈ [25, 26, 27, 22] := by simpa using Array.mem_of_getElem? ht
        have hall : ([25, 26, 27, 22].all fun u => !Tryd.prog.wantsStandIn u) = true := by kernel_rfl
        exact (show Tryd.prog.wantsStandIn t = false by simpa using List.all_eq_true.1 hall t hm)⟩)
    (by kernel_rfl)
#print axioms proved
end Go.Proofs.YtejpjclbeogajaaDoor.policyParses
namespace Go.Proofs.YtejpjclbeogajaaDoor
/-- The row, under a short name, for the claim. -/
theorem policyParses_holds : Rows.PolicyParsesCardSaid := policyParses.proved
end Go.Proofs.YtejpjclbeogajaaDoor
