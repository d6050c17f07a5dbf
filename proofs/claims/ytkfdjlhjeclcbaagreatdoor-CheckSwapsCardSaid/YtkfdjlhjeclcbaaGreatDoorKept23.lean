/-
  The kept names, where the row's condition holds: they lie in memory as the program's text lays them.
-/
import Derived.Test.YtkfdjlhjeclcbaaGreatDoorTie
import Derived.Test.YtkfdjlhjeclcbaaGreatDoorCards
import Derived.Test.YtkfdjlhjeclcbaaGreatDoorWalk23
import Derived.ProofKit
import Derived.LaidMore
import Derived.LaidSub
import Derived.OpenShut
import Derived.Stop.Joined
import Derived.SevenTiedAt
import Derived.Lay
namespace Go.Proofs.YtkfdjlhjeclcbaaGreatDoor
open Go Go.VI
open Go.ChangeShapes Go.WideShapes Go.ChangeAt Go.RowKit
open Go.ChangeMaps (open_string shut_string)

theorem gKept : Tryz.prog.globalNamed "concordat/lex.kept" = some 0 := by kernel_rfl
theorem tKept : (Tryz.prog.globals[0]?).map (·.type) = some 293 := by kernel_rfl
theorem cells9 : Tryz.prog.cellsOf 9 = 1 := by kernel_rfl
theorem cells293 : Tryz.prog.cellsOf 293 = 16 := by kernel_rfl
def isKept (x : String × DataW Unit) : Bool := x.1 == "concordat/lex.kept"

def keptB : List (List UInt8) := [[99, 108, 97, 115, 115], [101, 120, 116, 101, 110, 100, 115], [115, 116, 97, 116, 105, 99], [118, 111, 105, 100], [105, 110, 116], [98, 111, 111, 108, 101, 97, 110], [105, 102], [101, 108, 115, 101], [119, 104, 105, 108, 101], [114, 101, 116, 117, 114, 110], [112, 114, 105, 110, 116], [116, 114, 117, 101], [102, 97, 108, 115, 101], [110, 117, 108, 108], [116, 104, 105, 115], [110, 101, 119]]
theorem keptL_eq : keptL = keptB.map bs := rfl
theorem laid_eq : (Rows.laid_concordat_lex_kept : DataW Unit) = .agg (keptB.map fun b => .lit (.string b)) := rfl

theorem kept_of_laid {W : World} (h : laidMetH Tryz.prog Rows.checkSwapsRow.laid W) :
    ∃ c t fz, W.heap[0]? = some (.cells c t fz) ∧ keptL.length ≤ c.size ∧ ∀ (i : Nat) (v : Value), keptL[i]? = some v → c[i]? = some v := by
  have h := laidMetH.filter isKept h
  have e : Rows.checkSwapsRow.laid.filter isKept = [("concordat/lex.kept", Rows.laid_concordat_lex_kept)] := by kernel_rfl
  rw [e] at h
  rw [MakeChecks.laidMetH_plain _ _ _ (by kernel_rfl)] at h
  obtain ⟨ps, ⟨g0, t0, cs0, f0, p0, q0, hg0, ht0, hv0, hd0, _, _⟩, _, _⟩ := h
  obtain rfl := Option.some.inj (gKept.symm.trans hg0)
  obtain rfl := Option.some.inj (tKept.symm.trans ht0)
  obtain ⟨xs, m1, rfl, hx1, hlen, hn3, hel⟩ := DataW.trod_array Tryz.underlying293 hd0
  rw [cells293] at hlen
  rw [cells9] at hel
  rw [laid_eq] at hx1
  have hx : keptB.map (fun b => (DataW.lit (.string b) : DataW Unit)) = xs.map (·.1) := DataW.agg.inj (Prod.mk.inj hx1).1
  have cell : ∀ (i : Nat) (v : Value), keptL[i]? = some v → cs0[i]? = some v := by
    intro i v hv
    rw [keptL_eq, List.getElem?_map] at hv
    cases hb : keptB[i]? with
    | none => rw [hb] at hv; cases hv
    | some b =>
      rw [hb] at hv
      cases hv
      have hi : i < 16 := (List.getElem?_eq_some_iff.1 hb).1
      have h1 := hel i hi
      have hxi : (xs.map (·.1))[i]? = some (.lit (.string b)) := by rw [← hx, List.getElem?_map, hb]; rfl
      rw [List.getElem?_map] at hxi
      cases hxs : xs[i]? with
      | none => rw [hxs] at hxi; cases hxi
      | some x =>
        rw [hxs] at hxi h1
        obtain ⟨s, e1, e2, _⟩ := DataW.trod_string Tryz.underlying9 h1
        have e3 : x.1 = .lit (.string b) := by simpa using hxi
        rw [e2] at e3
        have e4 : s.data.toList = b := Lit.string.inj (DataW.lit.inj e3)
        have e5 : cs0.toList[i]? = some (.string s) := by
          have e7 := congrArg (fun l : List Value => l[0]?) e1
          rw [List.getElem?_take, if_pos (by decide), List.getElem?_drop, Nat.mul_one, Nat.add_zero] at e7
          exact e7
        have e6 : bs b = .string s := by
          unfold bs
          rw [← e4]
        rw [e6]
        simpa using e5
  have at0 := World.var?_cell gKept hv0
  have h0 := at0 0
  rw [cell 0 _ rfl] at h0
  have hw := h0
  unfold World.cell? at hw
  simp only at hw
  split at hw
  · rename_i c t fz hc
    refine ⟨c, t, fz, hc, ?_, fun i v hv => ?_⟩
    · have h15 := at0 15
      rw [cell 15 _ rfl] at h15
      unfold World.cell? at h15
      simp only [hc] at h15
      have : 15 < c.size := by
        have h15 : c[15]? = some (bs [110, 101, 119]) := by simpa using h15
        exact (Array.getElem?_eq_some_iff.1 h15).1
      show 16 ≤ c.size
      omega
    · have hi := at0 i
      rw [cell i v hv] at hi
      unfold World.cell? at hi
      simp only [hc] at hi
      simpa using hi
  · cases hw

end Go.Proofs.YtkfdjlhjeclcbaaGreatDoor
