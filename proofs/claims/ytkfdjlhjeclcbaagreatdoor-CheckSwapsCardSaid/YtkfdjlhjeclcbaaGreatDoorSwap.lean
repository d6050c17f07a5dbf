import Derived.Test.YtkfdjlhjeclcbaaGreatDoorChecked
import Derived.Lib.Strings
import Derived.Lib.Slices
import Derived.Lib.Walk
import Derived.WalkKit
namespace Go.Proofs.YtkfdjlhjeclcbaaGreatDoor
open Go

/-- Is it to be swapped? -/
def Swaps (id fr : ByteArray) : Prop :=
  fr.size ≤ id.size ∧ fr.size ≠ 0 ∧ (id.extract 0 fr.size).toList = fr.toList ∧ ∀ h : fr.size < id.size, (id[fr.size].toNat : Int) = 46 ∨ (id[fr.size].toNat : Int) = 35

open Classical in
/-- What a swap comes to. -/
noncomputable def swapS (id fr to : ByteArray) : ByteArray := if Swaps id fr then to ++ id.extract fr.size id.size else id

theorem swap_yes {id fr to : ByteArray} (h : Swaps id fr) : swapS id fr to = to ++ id.extract fr.size id.size := if_pos h
theorem swap_no {id fr to : ByteArray} (h : ¬ Swaps id fr) : swapS id fr to = id := if_neg h

theorem empty_size {s : ByteArray} : s.toList = [] ↔ s.size = 0 := by
  rw [Lib.toList_data, Lib.size_eq]
  exact List.length_eq_zero_iff.symm

theorem rest_empty {id fr : ByteArray} : (id.extract fr.size id.size).toList = [] ↔ id.size ≤ fr.size := by
  rw [Lib.extract_toList, Lib.size_eq id, Lib.size_eq fr]
  constructor
  · intro h
    have := congrArg List.length h
    rw [List.length_take, List.length_drop, List.length_nil] at this
    omega
  · intro h
    apply List.eq_nil_of_length_eq_zero
    rw [List.length_take, List.length_drop]
    omega

theorem rest_first {id fr : ByteArray} (h : fr.size < id.size) (h' : 0 < (id.extract fr.size id.size).size) : (id.extract fr.size id.size)[0] = id[fr.size] := by
  have := ByteArray.getElem_extract (start := fr.size) (stop := id.size) (i := 0) (h := h')
  rw [this]
  simp

set_option maxHeartbeats 4000000 in
/-- The reference's Swap. -/
theorem swap10 (id fr to : ByteArray) (h0 : id.size ≤ 1000) (h1 : fr.size ≤ 1000) (h2 : to.size ≤ 1000) (w : World) :
    Calls Tryz.prog 10 #[.string id, .string fr, .string to] w fun e w' => e = .returned (.string (swapS id fr to)) ∧ w' = w := by
  go_enter Tryz.func10, Tryz.ntmps10
  go_wp2
  · rename_i h3
    have hs : swapS id fr to = id := swap_no fun h => h.2.1 (by rw [h3]; rfl)
    go_ret
    exact ⟨by rw [hs]; rfl, rfl⟩
  · rename_i h3 h4 h5
    have hs : swapS id fr to = id := swap_no (by
      rintro ⟨q1, q2, q3, q4⟩
      rcases h5 with (h5 | h5) | h5
      · simp at h5; exact h3 h5
      · omega
      · rw [q3] at h5; simp at h5)
    go_ret
    exact ⟨by rw [hs]; rfl, rfl⟩
  · rename_i h3 h4 h5 h6 h7
    have hs := swap_yes (to := to) (show Swaps id fr from ⟨h4, by have := h5.1.1; simpa using this, by have := h5.2; simpa using this, fun _ => .inl h7⟩)
    go_ret
    exact ⟨by rw [hs]; rfl, rfl⟩
  · rename_i h3 h4 h5 h6 h7 h8
    have hs : swapS id fr to = id := swap_no (by
      rintro ⟨q1, q2, q3, q4⟩
      rcases q4 h6 with h | h
      · exact h7 h
      · simp [h] at h8)
    go_ret
    exact ⟨by rw [hs]; rfl, rfl⟩
  · rename_i h3 h4 h5 h6 h7 h8
    have hs := swap_yes (to := to) (show Swaps id fr from ⟨h4, by have := h5.1.1; simpa using this, by have := h5.2; simpa using this, fun _ => by
      rcases h8 with h8 | h8
      · exact .inl (by simpa using h8)
      · exact .inr (by simpa using h8)⟩)
    go_ret
    exact ⟨by rw [hs]; rfl, rfl⟩
  · rename_i h3 h4 h5 h6
    have hs := swap_yes (to := to) (show Swaps id fr from ⟨h4, by have := h5.1.1; simpa using this, by have := h5.2; simpa using this, fun h => absurd h h6⟩)
    go_ret
    exact ⟨by rw [hs]; rfl, rfl⟩
  · rename_i h3 h4
    have hs : swapS id fr to = id := swap_no fun h => h4 h.1
    go_ret
    exact ⟨by rw [hs]; rfl, rfl⟩

set_option maxHeartbeats 4000000 in
/-- The program's Swap. -/
theorem swap9 (id fr to : ByteArray) (h0 : id.size ≤ 1000) (h1 : fr.size ≤ 1000) (h2 : to.size ≤ 1000) (w : World) :
    Calls Tryz.prog 9 #[.string id, .string fr, .string to] w fun e w' => e = .returned (.string (swapS id fr to)) ∧ w' = w := by
  go_enter Tryz.func9, Tryz.ntmps9
  go_wp2
  · have a3 : fr.size ≤ id.size := by assumption
    have a4 : (!(id.extract 0 fr.size).toList == fr.toList) = true := by assumption
    have hs : swapS id fr to = id := swap_no (by
      rintro ⟨q1, q2, q3, q4⟩
      rw [q3] at a4; simp at a4)
    go_ret
    exact ⟨by rw [hs]; rfl, rfl⟩
  · have a5 : fr.toList = [] := by assumption
    have hs : swapS id fr to = id := swap_no (by
      rintro ⟨q1, q2, q3, q4⟩
      exact q2 (empty_size.1 a5))
    go_ret
    exact ⟨by rw [hs]; rfl, rfl⟩
  · have a5 : ¬fr.toList = [] := by assumption
    have a7 : fr.toList.isEmpty = true := by assumption
    exact absurd (by simpa using a7) a5
  · have a3 : fr.size ≤ id.size := by assumption
    have a4 : (!(id.extract 0 fr.size).toList == fr.toList) = false := by assumption
    have a5 : ¬fr.toList = [] := by assumption
    have a6 : (id.extract fr.size id.size).toList = [] := by assumption
    have hs := swap_yes (to := to) (show Swaps id fr from ⟨a3, fun h => a5 (empty_size.2 h), by simpa using a4, fun h => absurd (rest_empty.1 a6) (by omega)⟩)
    go_ret
    exact ⟨by rw [hs]; rfl, rfl⟩
  · have a5 : ¬fr.toList = [] := by assumption
    have a7 : fr.toList.isEmpty = true := by assumption
    exact absurd (by simpa using a7) a5
  · have a3 : fr.size ≤ id.size := by assumption
    have a4 : (!(id.extract 0 fr.size).toList == fr.toList) = false := by assumption
    have a5 : ¬fr.toList = [] := by assumption
    have a8 : 0 < id.size - fr.size := by assumption
    have hs := swap_yes (to := to) (show Swaps id fr from ⟨a3, fun h => a5 (empty_size.2 h), by simpa using a4, fun h => .inl (by rw [← rest_first h (by simpa using a8)]; assumption)⟩)
    go_ret
    exact ⟨by rw [hs]; rfl, rfl⟩
  · have a3 : fr.size ≤ id.size := by assumption
    have a4 : (!(id.extract 0 fr.size).toList == fr.toList) = false := by assumption
    have a5 : ¬fr.toList = [] := by assumption
    have a6 : ¬(id.extract fr.size id.size).toList = [] := by assumption
    have a8 : 0 < id.size - fr.size := by assumption
    have hx : 0 < (id.extract fr.size id.size).size := by simpa using a8
    have h : fr.size < id.size := by omega
    have e := rest_first h hx
    have a9 : ¬ (((id.extract fr.size id.size)[0]'hx).toNat : Int) = 46 := by assumption
    have a10 : fr.toList.isEmpty = true ∨ ((!(id.extract fr.size id.size).toList.isEmpty) = true ∧ ((((id.extract fr.size id.size)[0]'hx).toNat : Int) != 46) = true) ∧ ((((id.extract fr.size id.size)[0]'hx).toNat : Int) != 35) = true := by assumption
    rw [e] at a9 a10
    have hs : swapS id fr to = id := swap_no (by
      rintro ⟨q1, q2, q3, q4⟩
      rcases a10 with a10 | ⟨_, a10⟩
      · exact a5 (by simpa using a10)
      · rcases q4 h with q | q
        · exact a9 q
        · simp [q] at a10)
    go_ret
    exact ⟨by rw [hs]; rfl, rfl⟩
  · have a3 : fr.size ≤ id.size := by assumption
    have a4 : (!(id.extract 0 fr.size).toList == fr.toList) = false := by assumption
    have a5 : ¬fr.toList = [] := by assumption
    have a6 : ¬(id.extract fr.size id.size).toList = [] := by assumption
    have a8 : 0 < id.size - fr.size := by assumption
    have hx : 0 < (id.extract fr.size id.size).size := by simpa using a8
    have h : fr.size < id.size := by omega
    have e := rest_first h hx
    have a9 : ¬ (((id.extract fr.size id.size)[0]'hx).toNat : Int) = 46 := by assumption
    have a10 : fr.toList.isEmpty = false ∧ (((!(id.extract fr.size id.size).toList.isEmpty) = false ∨ ((((id.extract fr.size id.size)[0]'hx).toNat : Int) != 46) = false) ∨ ((((id.extract fr.size id.size)[0]'hx).toNat : Int) != 35) = false) := by assumption
    rw [e] at a9 a10
    have hs := swap_yes (to := to) (show Swaps id fr from ⟨a3, fun h => a5 (empty_size.2 h), by simpa using a4, fun _ => by
      rcases a10.2 with (q | q) | q
      · exact absurd (by simpa using q) a6
      · exact .inl (by simpa using q)
      · exact .inr (by simpa using q)⟩)
    go_ret
    exact ⟨by rw [hs]; rfl, rfl⟩
  · have a6 : ¬(id.extract fr.size id.size).toList = [] := by assumption
    have a8 : ¬ 0 < id.size - fr.size := by assumption
    exact absurd (rest_empty.2 (by omega)) a6
  · have a3 : ¬ fr.size ≤ id.size := by assumption
    have hs : swapS id fr to = id := swap_no (by
      rintro ⟨q1, q2, q3, q4⟩
      exact a3 q1)
    go_ret
    exact ⟨by rw [hs]; rfl, rfl⟩

end Go.Proofs.YtkfdjlhjeclcbaaGreatDoor
