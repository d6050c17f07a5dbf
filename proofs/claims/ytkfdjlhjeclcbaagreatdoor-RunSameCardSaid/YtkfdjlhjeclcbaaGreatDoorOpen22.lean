/-
  A result that came in, opened: its three parts, and what lies behind its texts.
-/
import Derived.Test.YtkfdjlhjeclcbaaGreatDoorTie
import Derived.Test.YtkfdjlhjeclcbaaGreatDoorCards
import Derived.Test.YtkfdjlhjeclcbaaGreatDoorPure22
import Derived.ProofKit
import Derived.OpenShut
import Derived.SliceStrings
import Derived.Lib.SmallJoins
import Derived.Carry
import Derived.LaidMore
import Derived.Stop.Joined
import Derived.SevenTiedAt
import Derived.Lay
namespace Go.Proofs.YtkfdjlhjeclcbaaGreatDoor.PRunSame
open Go
open Go.ChangeShapes Go.WideShapes Go.ChangeAt Go.RowKit Go.Joins
open Go.Proofs.YtkfdjlhjeclcbaaGreatDoorW.PrintWords

set_option maxRecDepth 100000
theorem c25 : Tryz.prog.cellsOf 25 = 3 := by kernel_rfl
theorem c9 : Tryz.prog.cellsOf 9 = 1 := by kernel_rfl
theorem laidOut : laidOutB Tryz.prog = true := by kernel_rfl
theorem own22 : ownKnob Tryz.prog.godebug = none := by kernel_rfl

/-- A result that came in. -/
theorem open_res {H : Type} {enc : TypeId × Value → H} {W : World} {base : Nat} {v : Value} {d : DataW H} {p : List MemPlace} (hv : Value.okWide Tryz.prog W .any base 25 v) (h : DataW.Trod enc Tryz.prog W 0 (fun _ => true) true 25 v d p) :
    ∃ (A : Option Addr) (cap : Nat) (ss : List ByteArray) (x y : Int), v = .agg #[.slice A ss.length cap, .int .i64 x, .int .i64 y] ∧ ss.length ≤ cap ∧ Kd.C Kd.string W A ss.length ss := by
  obtain ⟨v0, v1, v2, y0, y1, y2, n, rfl, _, _, h0, h1, h2⟩ := open_agg3 Tryz.underlying25 (by kernel_rfl) c25 hv h
  obtain ⟨x, e1, _, _⟩ := DataW.trod_int Tryz.underlying23 h1
  obtain ⟨y, e2, _, _⟩ := DataW.trod_int Tryz.underlying3 h2
  simp only [List.cons.injEq, and_true] at e1 e2
  subst e1; subst e2
  rcases open_strings Tryz.underlying22 Tryz.underlying9 c9 h0 with ⟨hcs, _⟩ | ⟨a, len, cap, ss, hcs, _, hl, hm, hz, _, hcell, _⟩
  · simp only [List.cons.injEq, and_true] at hcs
    subst hcs
    exact ⟨none, 0, [], x, y, rfl, Nat.le_refl _, rfl, by simp, fun h => absurd h (by simp)⟩
  · simp only [List.cons.injEq, and_true] at hcs
    subst hcs
    simp only [if_true] at hz
    have hlen : (ss.take len).length = len := by rw [List.length_take]; omega
    refine ⟨some a, cap, ss.take len, x, y, by rw [hlen], by rw [hlen]; exact hl, rfl, ?_, fun _ => ⟨a, rfl, fun j q hq => ?_⟩⟩
    · rw [hlen]
      unfold maxLen at hm
      omega
    · rw [List.getElem?_take] at hq
      split at hq
      · rename_i hj
        have hj' : j < ss.length := by omega
        have hc := hcell j hj'
        have e3 : ss.getD j ByteArray.empty = q := by rw [List.getD_eq_getElem?_getD, hq]; rfl
        rw [e3] at hc
        refine ⟨[.string q], rfl, rfl, fun i u hu => ?_⟩
        cases i with
        | zero =>
          simp only [List.getElem?_cons_zero, Option.some.injEq] at hu
          subst hu
          rw [show j * (Kd.string).sz + 0 = j from by show j * 1 + 0 = j; omega]
          exact hc
        | succ i => simp at hu
      · cases hq

end Go.Proofs.YtkfdjlhjeclcbaaGreatDoor.PRunSame
