/-
  The document's Number: a text's number of so many bytes.
-/
import Derived.Test.YtlfpakopahmdiaaRefN1
import Derived.Test.YtlfpakopahmdiaaRefN2
namespace Go.Proofs.Ytlfpakopahmdiaa
open Go.RowKit
set_option linter.unusedVariables false
set_option linter.unusedSimpArgs false

set_option maxHeartbeats 8000000 in
set_option maxRecDepth 100000 in
theorem refNumber_calls (s : ByteArray) (size : Int) (sign : Bool) (w : World) (hs : s.size ≤ 100000) (hz0 : -9223372036854775808 ≤ size) (hz1 : size ≤ 9223372036854775807) :
    Calls Try.prog 39 #[.string s, .int .i64 size, .bool sign] w (RefNumPost w (numOf s size sign)) := by
  have hcg := refGood_calls s w hs
  cases hg : refGoodB s with
  | false =>
    rw [hg] at hcg
    have HF := Lib.hid (digVal_no s (fun h => by rw [hg] at h; cases h.1) size sign)
    clear hg
    go_enter Try.func39, Try.ntmps39
    go_wp2_with fail
    refine hcg.mono ?_
    rintro e w' ⟨rfl, rfl⟩
    go_wp2
    go_ret2
    exact refNum_no _ _ HF.out _
  | true =>
    have hcs := refSized_calls size hz0 hz1 w
    cases hsz : sizedB size with
    | false =>
      rw [hg] at hcg
      rw [hsz] at hcs
      have hfin : numOf s size sign = none := by
        rw [numOf]; cases digVal s with
        | none => rfl
        | some v => simp [hsz]
      have HF := Lib.hid hfin
      clear hsz hfin hg
      go_enter Try.func39, Try.ntmps39
      go_wp2_with fail
      refine hcg.mono ?_
      rintro e w' ⟨rfl, rfl⟩
      go_wp2_with fail
      refine hcs.mono ?_
      rintro e w' ⟨rfl, rfl⟩
      go_wp2
      go_ret2
      exact refNum_no _ _ HF.out _
    | true =>
      cases hm : hasMinus s with
      | true => exact refNumber_minus s size sign w hs hz0 hz1 hg hsz hm
      | false => exact refNumber_plus s size sign w hs hz0 hz1 hg hsz hm

end Go.Proofs.Ytlfpakopahmdiaa
