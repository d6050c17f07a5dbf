/-
  Law 23's live example, its first part.
-/
import Derived.Test.YtkfdjlhjeclcbaaGreatDoorAwake
namespace Go.Proofs.YtkfdjlhjeclcbaaGreatDoor
open Go Go.VI Go.RowKit

/-- The kept names, as the program's text lays them. -/
noncomputable def keptL : List Value := [bs [99, 108, 97, 115, 115], bs [101, 120, 116, 101, 110, 100, 115], bs [115, 116, 97, 116, 105, 99], bs [118, 111, 105, 100], bs [105, 110, 116], bs [98, 111, 111, 108, 101, 97, 110], bs [105, 102], bs [101, 108, 115, 101], bs [119, 104, 105, 108, 101], bs [114, 101, 116, 117, 114, 110], bs [112, 114, 105, 110, 116], bs [116, 114, 117, 101], bs [102, 97, 108, 115, 101], bs [110, 117, 108, 108], bs [116, 104, 105, 115], bs [110, 101, 119]]

noncomputable def at23 : List (Nat × List Value) := [(0, keptL)]

/-- What is kept in the middle of the run: the slices and variables, and what lies behind those that are looked into. -/
noncomputable def T23 : List (Nat × Value) := [(1, .slice (some ⟨100, 0, none⟩) 2 2), (2, .slice (some ⟨101, 0, none⟩) 1 2), (3, .slice (some ⟨269, 0, none⟩) 2 1), (4, .pointer (some ⟨270, 0, none⟩)), (5, .slice (some ⟨783, 0, none⟩) 4 1), (6, .pointer (some ⟨784, 0, none⟩)), (7, .slice (some ⟨1159, 0, none⟩) 3 9), (8, .pointer (some ⟨1160, 0, none⟩))]

noncomputable def none3 : List Value := [.int .i64 0, .int .i64 0, .int .i64 0]

noncomputable def K23 : Kp := [(0, .ro keptL),
  (100, .cells [bs [97], bs [99, 108, 97, 115, 115, 32, 65, 123, 105, 110, 116, 32, 102, 59, 125], bs [98], bs [99, 108, 97, 115, 115, 32, 66, 32, 101, 120, 116, 101, 110, 100, 115, 32, 65, 123, 125]] 100 0),
  (101, .cells [bs [97], bs [99, 108, 97, 115, 115, 32, 65, 123, 105, 110, 116, 32, 102, 125]] 101 0),
  (270, .cells none3 270 0), (783, .cells [bs [65], bs [65, 46, 102], bs [66], bs [65]] 774 0), (784, .cells none3 784 0), (1160, .cells none3 1160 0)]

theorem run23a : isNormal (chain (run (cxOf Tryz.prog) 100000) (firstN 6 (bodyC Tryz.f8)) (startA Tryz.f8.ntmps []) (memG at23)) (keepOk T23 Tryz.f8.ntmps K23 1161) = true := by kernel_rfl
end Go.Proofs.YtkfdjlhjeclcbaaGreatDoor
