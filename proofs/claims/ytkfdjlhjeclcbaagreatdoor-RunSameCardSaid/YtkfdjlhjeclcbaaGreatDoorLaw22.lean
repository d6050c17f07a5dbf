/-
  RunSame: for every two results the law returns true, and they read afterwards as before.
  Conditions: the row's own (the listed package-level variables lie as the program's text lays them: tied by the card).
-/
import Derived.Test.YtkfdjlhjeclcbaaGreatDoorOpen22
import Derived.Test.YtkfdjlhjeclcbaaGreatDoorTie
import Derived.Test.YtkfdjlhjeclcbaaGreatDoorCards
import Derived.Test.YtkfdjlhjeclcbaaGreatDoorPure22
import Derived.ProofKit
import Derived.OpenShut
import Derived.SliceStrings
import Derived.Lib.SmallJoins
import Derived.Carry
import Derived.LaidMore
import Derived.Stop.Joined
import Derived.SevenTiedAt
import Derived.Lay
namespace Go.Proofs.YtkfdjlhjeclcbaaGreatDoor.PRunSame
open Go
open Go.ChangeShapes Go.WideShapes Go.ChangeAt Go.RowKit Go.Joins
open Go.Proofs.YtkfdjlhjeclcbaaGreatDoorW.PrintWords

set_option maxRecDepth 100000 in
theorem lifted22 (os : Os) (started : os.Started) (H : Type) (enc : TypeId × Value → H) :
    ReturnsInHanded {} Tryz.checked os 3 .any (fun w args => (Rows.runSameSpec.pre enc Tryz.prog Tryz.f3 [] false w args ∧ laidMetH Tryz.prog Rows.runSameRow.laid w) ∧ sizedMet enc Tryz.prog Tryz.f3 (OpenSpec.ofChange Rows.runSameSpec) false w args)
      (Rows.runSameSpec.post enc Tryz.prog Tryz.f3 false true false false) := by
  refine returnsInHanded_of_change_and (C := Tryz.checked) (X := fun w _ => laidMetH Tryz.prog Rows.runSameRow.laid w) (fun _ _ _ hh h => h.of_heap hh) own22 started (by kernel_rfl) Tryz.func3
    (ChangeSpec.witness_shaped (enc := enc) (C := Tryz.checked) (os := os) (X := fun w _ => laidMetH Tryz.prog Rows.runSameRow.laid w) false (World.laidAll Tryz.prog os Rows.runSameRow.laid) #[.agg #[.slice none 0 0, .int .i64 0, .int .i64 0], .agg #[.slice none 0 0, .int .i64 0, .int .i64 0]] 8 (World.laidAll_os _ _ _)
      (World.shaped_of_ZipB (by kernel_rfl) (by kernel_rfl)) (by kernel_rfl) (by kernel_rfl) (by kernel_rfl)
      (by rw [MakeChecks.laidMetH_plain _ _ _ (by kernel_rfl)]; exact laidMet_laidAll _ (by kernel_rfl) (by kernel_rfl))) ?_
  intro W base args ds gs before hval0 hW _ _ _ _
  have hval : ∀ (j : Nat) t v, Tryz.f3.params[j]? = some t → args[j]? = some v → Value.okWide Tryz.prog W .any base t v := hval0
  have hW' := hW
  obtain ⟨p, q, hA0, hV, rfl, _, _⟩ := hW
  have hA : DataW.TrodAll enc Tryz.prog W 0 (fun _ => true) true Tryz.f3.params.toList args.toList ds p := hA0
  rw [Tryz.params3] at hA hval
  obtain ⟨v0, v1, d0, d1, p0, p1, rfl, rfl, rfl, h0, h1⟩ := trodAll_two hA
  obtain ⟨rfl, rfl⟩ := trodVars_none hV
  simp only [List.append_nil] at hW'
  have hlt : ∀ x ∈ p0 ++ p1, x.block < W.heap.size := fun x hx => by simpa using hW'.lt x hx
  have hv0 := hval 0 25 v0 rfl rfl
  have hv1 := hval 1 25 v1 rfl rfl
  have hargs : ∀ (W' : World), Below W.heap.size W W' → DataW.TrodAll enc Tryz.prog W' 0 (fun b => decide (b < W.heap.size)) true [25, 25] [v0, v1] [d0, d1] (p0 ++ p1) :=
    fun W' hb => trodAll_mk2 (Below.trod laidOut (by kernel_rfl) (of_decide_eq_true (by kernel_rfl)) h0 hb fun x hx => hlt x (List.mem_append_left _ hx))
      (Below.trod laidOut (by kernel_rfl) (of_decide_eq_true (by kernel_rfl)) h1 hb fun x hx => hlt x (List.mem_append_right _ hx))
  obtain ⟨A0, c0, l0, x0, y0, rfl, k0, r0⟩ := open_res hv0 h0
  obtain ⟨A1, c1, l1, x1, y1, rfl, k1, r1⟩ := open_res hv1 h1
  obtain ⟨k, hk⟩ := pure22 l0 l1 x0 y0 x1 y1
  refine (concordatlaw22_RunSame.calls k A0 c0 l0 x0 y0 A1 c1 l1 x1 y1 true W r0 k0 r1 k1 hk).mono fun e W' ⟨he, hb⟩ => ?_
  subst he
  exact ⟨_, rfl, _, _, _, [], p0 ++ p1, [], hW', trodAll_mk1 (shut_bool Tryz.underlying4 _), hargs W' hb, rfl, hb.frame _, fun h => by cases h⟩

theorem over22 : Rows.RunSameSaid :=
  OpenClaim.holds_of_wide 3 Tryz.f3 rfl rfl rfl rfl rfl rfl rfl ⟨rfl, rfl, rfl, rfl, rfl⟩ rfl rfl rfl rfl rfl (by kernel_rfl) Tryz.func3 (by kernel_rfl)
    (of_decide_eq_true (by kernel_rfl)) (by unfold Func.isWrapper; first | (rw [if_pos (by decide +kernel)]; kernel_rfl) | (rw [if_neg (by decide +kernel)]; exact ⟨rfl, rfl⟩))
    (fun os started H enc _ => lifted22 os started H enc)

/-- THE TIED CARD. -/
theorem runSame_card : Rows.RunSameCardSaid :=
  Claim7.holds_tied_plain_at .later [] [.data, .data, .data] true (true, "267a20a1a24b6142cdc890c1d56e86711be4aa9b849eb4c7e6e5dd30850985d0") true
    over22 (fun _ h => by cases h) (by kernel_rfl) (fun _ h => by cases h) runSame_row_tie rfl ⟨rfl, rfl⟩ (by kernel_rfl) rfl
    (fun f fn hf hfn => by
      obtain rfl : f = 3 := Option.some.inj ((show Tryz.prog.funcNamed "concordat/concordatlaw22.RunSame" = some 3 by kernel_rfl).symm.trans hf) |>.symm
      obtain rfl : fn = Tryz.f3 := (Option.some.inj (Tryz.func3.symm.trans hfn)).symm
      exact ⟨by kernel_rfl, fun j t ht => by
        rw [Tryz.params3] at ht
        have h25 : t = 25 := by
          rcases j with _ | _ | j <;> simp at ht <;> exact ht.symm
        subst h25
        exact (show Tryz.prog.wantsStandIn 25 = false by kernel_rfl)⟩)
    (by kernel_rfl)
#print axioms runSame_card
end Go.Proofs.YtkfdjlhjeclcbaaGreatDoor.PRunSame
