/-
  Each law's live example: called in whatever world (for law 23: one in which the kept names lie as the program's text lays them), it returns true, and nothing that was there turns.
-/
import Derived.Test.YtkfdjlhjeclcbaaGreatDoorChecked
import Derived.Test.YtkfdjlhjeclcbaaGreatDoorViBody
import Derived.KernelRfl
namespace Go.Proofs.YtkfdjlhjeclcbaaGreatDoor
open Go Go.VI Go.RowKit

theorem noGor : picked isGor 0 Tryz.prog.funcs.toList = [] := by kernel_rfl
theorem oneClone : picked isClone 0 Tryz.prog.funcs.toList = [232] := by kernel_rfl
theorem oneIndex : picked isIndex 0 Tryz.prog.funcs.toList = [294] := by kernel_rfl
theorem cloneExt : Extern.findNext Tryz.f232 = none ∧ Extern.find Tryz.f232 = some Extern.MapsClone.clone := ⟨by kernel_rfl, by kernel_rfl⟩
theorem indexExt : Extern.findNext Tryz.f294 = none ∧ Extern.find Tryz.f294 = some Extern.BytealgIndexByte.indexByte := ⟨by kernel_rfl, by kernel_rfl⟩
theorem typesOk : allP (typeOk Tryz.prog) (List.range Tryz.prog.types.size) = true := by kernel_rfl
theorem mixed : Tryz.prog.follows .mixedOrders = true := by kernel_rfl
theorem cxOk : CxOk (cxOf Tryz.prog) := cxOf_ok mixed noGor 232 294 oneClone oneIndex Tryz.func232 Tryz.func294 cloneExt indexExt typesOk

theorem run22 : isTrue (run (cxOf Tryz.prog) 100000 (.call 5 []) (memG [])) = true := by kernel_rfl

/-- **LAW 22's LIVE EXAMPLE.** -/
theorem awake22 (w : World) : Calls Tryz.prog 5 #[] w fun e w' => e = .returned (.bool true) ∧ Below w.heap.size w w' := by
  obtain ⟨σ, h⟩ := isTrue_ok run22
  exact calls_whole cxOk (by simp) rfl h (relG (k := []) (by simp) List.Pairwise.nil (by simp) (by simp)) (readG [])
end Go.Proofs.YtkfdjlhjeclcbaaGreatDoor
