/-
  Law 23's live example, its second part, and the whole.
-/
import Derived.Test.YtkfdjlhjeclcbaaGreatDoorAwakeB
namespace Go.Proofs.YtkfdjlhjeclcbaaGreatDoor
open Go Go.VI Go.RowKit

theorem run23b : isTrue (leaveR (cxOf Tryz.prog) (run (cxOf Tryz.prog) 100000) Tryz.f8 (run (cxOf Tryz.prog) 100000 (.code none (restN 6 (bodyC Tryz.f8)) ⟨setL deepT T23, Tryz.f8.ntmps, []⟩) (kpM K23 1161))) = true := by kernel_rfl

theorem kept23 : kpOk K23 1161 = true := by kernel_rfl
theorem shut23 : allP shut keptL = true := by kernel_rfl

/-- **LAW 23's LIVE EXAMPLE.** -/
theorem awake23 (w : World) (h : ∃ c t fz, w.heap[0]? = some (.cells c t fz) ∧ keptL.length ≤ c.size ∧ ∀ (i : Nat) (v : Value), keptL[i]? = some v → c[i]? = some v) :
    Calls Tryz.prog 8 #[] w fun e w' => e = .returned (.bool true) ∧ Below w.heap.size w w' := by
  obtain ⟨a, σ, h1, h2⟩ := isNormal_ok run23a
  obtain ⟨σ3, h3⟩ := isTrue_ok run23b
  have R : Rel (iotaG at23) dom0 (memG at23) w := relG (by simp [at23, globs]) (List.pairwise_singleton _ _)
    (fun p hp => by simp only [at23, List.mem_singleton] at hp; subst hp; exact allP_ok shut23) (fun p hp => by simp only [at23, List.mem_singleton] at hp; subst hp; exact h)
  exact calls_split cxOk (fn := Tryz.f8) Tryz.func8 (by rw [nest_cut]; exact bodyC_some (by kernel_rfl)) (by decide) h1 (keep_of h2 kept23) h3 rfl R (readG _)
end Go.Proofs.YtkfdjlhjeclcbaaGreatDoor
