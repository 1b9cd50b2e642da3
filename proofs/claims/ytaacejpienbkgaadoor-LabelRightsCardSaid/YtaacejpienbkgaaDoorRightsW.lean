/- The law LabelRights, walked. -/
import Derived.Test.YtaacejpienbkgaaDoorLab12
import Derived.Test.YtaacejpienbkgaaDoorLab1
namespace Go.Proofs.YtaacejpienbkgaaDoor
open Go.RowKit

set_option maxHeartbeats 400000 in
theorem rights_walk (xs : Bytes) (w : World) (hT : LinesAt w) (hx : xs.length ≤ 140737488355328) : Calls Tryd.prog 5 #[str xs] w fun e w' => e = .returned (.bool true) ∧ Chg [] w w' := by
  have HT := Lib.hid hT
  clear hT
  obtain ⟨b, hb⟩ : ∃ b, b = rightB xs := ⟨_, rfl⟩
  have Hb := Lib.hid hb
  clear hb
  go_enter Tryd.func5, Tryd.ntmps5
  go_wp2_with (first
    | (go_at_call 24; refine (awake_spec w HT.out).mono ?_; rintro e w1 ⟨rfl, hC⟩; have HC := Lib.hid hC; clear hC)
    | (go_at_call 25; refine (right_spec xs _).mono ?_; rintro e w2 ⟨rfl, hC⟩; rw [← Hb.out]; have HC2 := Lib.hid hC; clear hC)
    | (go_at_call 26; refine (lawright_spec xs _ hx).mono ?_; rintro e w3 ⟨rfl, rfl⟩; rw [← Hb.out]))
  go_ret
  exact ⟨by simp, HC.out.trans HC2.out⟩

end Go.Proofs.YtaacejpienbkgaaDoor
