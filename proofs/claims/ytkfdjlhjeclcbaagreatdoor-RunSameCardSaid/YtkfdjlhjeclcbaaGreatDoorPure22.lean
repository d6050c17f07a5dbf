/-
  RunSame, as a plain statement: for all lists of texts and all numbers, with enough rounds, the law's Lean function answers true.
-/
import Derived.Test.YtkfdjlhjeclcbaaGreatDoorPRunSamex2
namespace Go.Proofs.YtkfdjlhjeclcbaaGreatDoor.PRunSame
open Go.RowKit Go.Proofs.YtkfdjlhjeclcbaaGreatDoorW.PrintWords Go.Proofs.YtkfdjlhjeclcbaaGreatDoorW.PrintLast Go.Proofs.YtkfdjlhjeclcbaaGreatDoorW.PrintMore

/-- The library's loop is the reference's. -/
theorem loops_same (x0 x1 : List ByteArray) : ∀ (k : Nat) (i : Int), slices_Equal_string_string.l0 k x0 x1 (x0.length : Int) i = concordatref01_Same.l0 k x0 x1 i
  | 0, i => rfl
  | k + 1, i => by
    simp only [slices_Equal_string_string.l0, concordatref01_Same.l0]
    by_cases h : i < (x0.length : Int)
    · rw [if_pos h, if_pos h, if_pos h, loops_same x0 x1 k]
    · rw [if_neg h, if_neg h]

theorem calls_same (k : Nat) (x0 x1 : List ByteArray) : slices_Equal_string_string.f k x0 x1 = concordatref01_Same.f k x0 x1 := by
  unfold slices_Equal_string_string.f concordatref01_Same.f
  rw [loops_same]

theorem loop_some (x0 x1 : List ByteArray) (h : x0.length = x1.length) (hs : x0.length ≤ 100) : ∀ (k : Nat) (i : Int), 0 ≤ i → ((x0.length : Int) - i).toNat < k → ∃ b, concordatref01_Same.l0 k x0 x1 i = some b
  | 0, i, _, hk => by omega
  | k + 1, i, h0, hk => by
    simp only [concordatref01_Same.l0]
    by_cases h1 : i < (x0.length : Int)
    · rw [if_pos h1, if_pos h0, if_pos (by omega)]
      by_cases h2 : (rdOf ByteArray.empty x0 i).toList = (rdOf ByteArray.empty x1 i).toList
      · rw [if_pos h2]
        have hw : wrap64 (i + 1) = i + 1 := by unfold wrap64; omega
        rw [hw]
        exact loop_some x0 x1 h hs k (i + 1) (by omega) (by omega)
      · rw [if_neg h2]
        exact ⟨false, rfl⟩
    · rw [if_neg h1]
      exact ⟨true, rfl⟩

theorem loop_refl (x0 : List ByteArray) (hs : x0.length ≤ 100) : ∀ (k : Nat) (i : Int), 0 ≤ i → ((x0.length : Int) - i).toNat < k → concordatref01_Same.l0 k x0 x0 i = some true
  | 0, i, _, hk => by omega
  | k + 1, i, h0, hk => by
    simp only [concordatref01_Same.l0]
    by_cases h1 : i < (x0.length : Int)
    · rw [if_pos h1, if_pos h0, if_pos (by omega)]
      have hw : wrap64 (i + 1) = i + 1 := by unfold wrap64; omega
      rw [if_pos trivial, hw]
      exact loop_refl x0 hs k (i + 1) (by omega) (by omega)
    · rw [if_neg h1]

theorem same_some (x0 x1 : List ByteArray) (hs : x0.length ≤ 100) : ∃ b, concordatref01_Same.f 300 x0 x1 = some b := by
  unfold concordatref01_Same.f
  by_cases h : (x0.length : Int) = (x1.length : Int)
  · rw [if_pos h]
    exact loop_some x0 x1 (by omega) hs 300 0 (by omega) (by omega)
  · rw [if_neg h]
    exact ⟨false, rfl⟩

theorem same_refl (x0 : List ByteArray) (hs : x0.length ≤ 100) : concordatref01_Same.f 300 x0 x0 = some true := by
  unfold concordatref01_Same.f
  rw [if_pos rfl]
  exact loop_refl x0 hs 300 0 (by omega) (by omega)

theorem run_refl (x0 : List ByteArray) (a b c : Int) (hs : x0.length ≤ 100) : run_Same.f 300 x0 a b x0 a c = some true := by
  unfold run_Same.f
  rw [if_pos rfl, calls_same, same_refl x0 hs]
  rfl

theorem pure22 (x0 x1 : List ByteArray) (a b c d : Int) : ∃ k, concordatlaw22_RunSame.f k x0 a b x1 c d = some true := by
  refine ⟨301, ?_⟩
  unfold concordatlaw22_RunSame.f concordatlaw22_awake.f
  simp only [Option.bind_some, if_true]
  by_cases h0 : (x0.length : Int) > 100
  · rw [if_pos h0]
    rfl
  · rw [if_neg h0]
    by_cases h1 : (x1.length : Int) > 100
    · rw [decide_eq_true h1]
      rfl
    · rw [decide_eq_false h1]
      simp only [concordatlaw22_RunSame.j0]
      rw [if_neg (by simp)]
      have s0 : x0.length ≤ 100 := by omega
      have s1 : x1.length ≤ 100 := by omega
      have e1 : run_Same.f 300 x0 a b x1 c d = if a = c then concordatref01_Same.f 300 x0 x1 else some false := by
        unfold run_Same.f
        rw [calls_same]
        by_cases h : a = c
        · rw [if_pos h, if_pos h]
          cases concordatref01_Same.f 300 x0 x1 <;> rfl
        · rw [if_neg h, if_neg h]
      obtain ⟨v, hv⟩ := same_some x0 x1 s0
      rw [e1, hv, run_refl x0 a b b s0, run_refl x1 c d (wrap64 (d + 1)) s1]
      by_cases h : a = c
      · simp [h]
      · simp [h]
end Go.Proofs.YtkfdjlhjeclcbaaGreatDoor.PRunSame
