/-
  Law 23's CheckSwaps, walked: for every three texts it returns true, where the kept names lie as the program's text lays them; nothing that was there turns.
-/
import Derived.Test.YtkfdjlhjeclcbaaGreatDoorSwap
import Derived.Test.YtkfdjlhjeclcbaaGreatDoorAwakeC
namespace Go.Proofs.YtkfdjlhjeclcbaaGreatDoor
open Go Go.VI Go.RowKit

set_option maxHeartbeats 4000000 in
theorem walk23 (a0 a1 a2 : ByteArray) (w : World) (hk : ∃ c t fz, w.heap[0]? = some (.cells c t fz) ∧ keptL.length ≤ c.size ∧ ∀ (i : Nat) (v : Value), keptL[i]? = some v → c[i]? = some v) :
    Calls Tryz.prog 4 #[.string a0, .string a1, .string a2] w fun e w' => e = .returned (.bool true) ∧ Below w.heap.size w w' := by
  have H := awake23 w hk
  clear hk
  go_enter Tryz.func4, Tryz.ntmps4
  go_wp2_with (first
    | (go_at_call 8; refine H.mono ?_; rintro e w' ⟨rfl, hb⟩)
    | (go_at_call 9; refine (swap9 a0 a1 a2 (by omega) (by omega) (by omega) _).mono ?_; rintro e w' ⟨rfl, rfl⟩)
    | (go_at_call 10; refine (swap10 a0 a1 a2 (by omega) (by omega) (by omega) _).mono ?_; rintro e w' ⟨rfl, rfl⟩))
  · go_ret
    exact ⟨rfl, by assumption⟩
  · go_ret
    refine ⟨?_, by assumption⟩
    simp
  · go_ret
    exact ⟨rfl, by assumption⟩
  · go_ret
    exact ⟨rfl, by assumption⟩
end Go.Proofs.YtkfdjlhjeclcbaaGreatDoor
