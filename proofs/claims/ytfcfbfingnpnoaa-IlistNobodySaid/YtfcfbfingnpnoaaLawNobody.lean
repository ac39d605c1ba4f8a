/-
  Of lists that are nil nothing is told.
-/
import Derived.Test.YtfcfbfingnpnoaaAwake
set_option linter.unusedVariables false
set_option linter.unusedSimpArgs false
namespace Go.Proofs.Ytfcfbfingnpnoaa
open Go.RowKit

set_option maxRecDepth 100000 in
set_option maxHeartbeats 4000000 in
theorem walk_IlistNobody (a0 : Int) (a1 : Int) (w : World) :
    Calls Try.prog 4 #[.int .i64 a0, .int .i32 a1] w fun e w' => e = .returned (.bool true) ∧ Below w.heap.size w w' := by
  go_enter Try.func4, Try.ntmps4
  go_wp2_with fail
  go_must (refine (law_awake w).mono ?_)
  rintro e w1 ⟨rfl, k1⟩
  have K1 := hid k1
  clear k1
  go_wp2_with fail
  go_must (refine (ilist_PushFront_nil a0 a1).mono ?_)
  rintro e w2 ⟨rfl, k2⟩
  have K2 := hid (K1.out.trans (k2.mono K1.out.size))
  clear k2
  go_wp2_with fail
  go_must (refine (ilist_PushBack_nil a0 a1).mono ?_)
  rintro e w3 ⟨rfl, k3⟩
  have K3 := hid (K2.out.trans (k3.mono K2.out.size))
  clear k3
  go_wp2_with fail
  go_must (refine (ilist_Remove_nil a1).mono ?_)
  rintro e w4 ⟨rfl, rfl⟩
  go_wp2_with fail
  go_must (refine (ilist_MoveFront_nil a0 a1).mono ?_)
  rintro e w4 ⟨rfl, rfl⟩
  go_wp2_with fail
  go_must (refine (ilist_Front_nil a0).mono ?_)
  rintro e w4 ⟨rfl, rfl⟩
  go_wp2_with fail
  go_must (refine (ilist_Back_nil a0).mono ?_)
  rintro e w4 ⟨rfl, rfl⟩
  go_wp2_with fail
  go_must (refine (ilist_After_nil a1).mono ?_)
  rintro e w4 ⟨rfl, rfl⟩
  go_wp2_with fail
  go_must (refine (ilist_Before_nil a1).mono ?_)
  rintro e w4 ⟨rfl, rfl⟩
  go_wp2_with fail
  go_must (refine (ilist_Tag_nil a1).mono ?_)
  rintro e w4 ⟨rfl, rfl⟩
  go_wp2_with fail
  go_must (refine (ilist_Len_nil a0).mono ?_)
  rintro e w4 ⟨rfl, rfl⟩
  go_wp2_with fail
  go_must (refine (lists_All_nil a0).mono ?_)
  rintro e w4 ⟨v, rfl, hr, k4⟩
  obtain ⟨A1, c1, hv, _, _⟩ := hr.slice
  rw [hv]
  clear hv hr
  have K4 := hid (K3.out.trans (k4.mono K3.out.size))
  clear k4
  go_wp2
  go_ret
  exact ⟨rfl, K4.out⟩

end Go.Proofs.Ytfcfbfingnpnoaa
