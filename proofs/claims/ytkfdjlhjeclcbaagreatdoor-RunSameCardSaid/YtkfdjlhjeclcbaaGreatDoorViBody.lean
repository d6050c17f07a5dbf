/-
  VI: a function's code, cut in two.
-/
import Derived.Test.YtkfdjlhjeclcbaaGreatDoorViCx
namespace Go.VI
open Go

noncomputable def firstN : Nat → Code → List Code
  | 0, _ => []
  | n + 1, .seq a b => a :: firstN n b
  | _, _ => []

noncomputable def restN : Nat → Code → Code
  | 0, c => c
  | n + 1, .seq _ b => restN n b
  | _, c => c

theorem nest_cut : ∀ (n : Nat) (c : Code), nest (firstN n c) (restN n c) = c
  | 0, c => by simp [firstN, restN, nest]
  | n + 1, c => by
    cases c <;> simp [firstN, restN, nest]
    rename_i a b
    exact nest_cut n b

noncomputable def bodyC (f : Func) : Code :=
  match f.body with
  | some c => c
  | none => .skip

theorem bodyC_some {f : Func} (h : f.body.isSome = true) : f.body = some (bodyC f) := by
  unfold bodyC
  cases hb : f.body with
  | none => rw [hb] at h; cases h
  | some c => rfl

noncomputable def bs (l : List UInt8) : Value := .string ⟨⟨l⟩⟩

/-- A memory in which some blocks of package-level variables are known. -/
noncomputable def memG (k : List (Nat × List Value)) : Mem := ⟨setL deep (k.map fun p => (p.1, Blk.ro p.2)), globs, Tr.blank deep⟩

noncomputable def limG : List (Nat × List Value) → Nat → Nat
  | [], _ => 0
  | p :: r, b => if p.1 = b then p.2.length else limG r b

noncomputable def iotaG (k : List (Nat × List Value)) : Emb := fun b => ⟨b, 0, limG k b⟩

theorem limG_mem : ∀ (k : List (Nat × List Value)) (b : Nat) (cs : List Value), (b, cs) ∈ k → (k.Pairwise fun x y => x.1 ≠ y.1) → limG k b = cs.length
  | [], b, cs, h, _ => by cases h
  | p :: r, b, cs, h, hp => by
    obtain ⟨h1, h2⟩ := List.pairwise_cons.1 hp
    unfold limG
    rcases List.mem_cons.1 h with h | h
    · cases h; rw [if_pos rfl]
    · rw [if_neg (h1 _ h)]
      exact limG_mem r b cs h h2

/-- The variables lie in the world as they are known; none of them holds an address. -/
theorem relG {k : List (Nat × List Value)} {w : World} (hk : ∀ p ∈ k, p.1 < globs) (hp : k.Pairwise fun x y => x.1 ≠ y.1) (hs : ∀ p ∈ k, ∀ v ∈ p.2, shut v = true)
    (h : ∀ p ∈ k, ∃ c t fz, w.heap[p.1]? = some (.cells c t fz) ∧ p.2.length ≤ c.size ∧ ∀ (i : Nat) (v : Value), p.2[i]? = some v → c[i]? = some v) : Rel (iotaG k) dom0 (memG k) w := by
  have mem : ∀ B b, (memG k).h.get B = some b → ∃ p ∈ k, p.1 = B ∧ b = .ro p.2 := by
    intro B b hB
    obtain ⟨p, p1, p2⟩ := List.mem_map.1 (setL_mem _ _ hB)
    cases p2
    exact ⟨p, p1, rfl, rfl⟩
  refine ⟨setL_full _ _, full_blank _, fun g hg => ⟨hg, rfl, rfl⟩, Nat.le_refl _, fun B h => h, fun B b hB => ?_, fun B B' b b' hB hB' _ _ he => .inl he, fun B cs f s hB => ?_, fun B cs f s hB => ?_, fun f _ => (by show (Tr.blank deep : Tr (List Nat)).get f = none; exact get_blank _ _), (by show globs ≤ VI.most; decide)⟩
  · obtain ⟨p, p1, rfl, rfl⟩ := mem B b hB
    refine ⟨hk p p1, ?_⟩
    obtain ⟨c, t, fz, h1, h2, h3⟩ := h p p1
    have hl := limG_mem k p.1 p.2 p1 hp
    have e1 : ((iotaG k) p.1).blk = p.1 := rfl
    have e2 : ((iotaG k) p.1).shift = 0 := rfl
    have e3 : ((iotaG k) p.1).limit = p.2.length := hl
    refine ⟨⟨c, t, fz, by rw [e1]; exact h1, by rw [e2, e3]; omega, by rw [e3]; exact h2, fun i v hv => ?_⟩, by rw [e2, e3]; omega⟩
    have hm := hs p p1 v (List.mem_of_getElem? hv)
    rw [e2, Nat.zero_add, (vok_shut (D := dom0) hm).1]
    exact ⟨h3 i v hv, (vok_shut hm).2⟩
  · obtain ⟨p, _, _, e⟩ := mem B _ hB
    cases e
  · obtain ⟨p, _, _, e⟩ := mem B _ hB
    cases e

theorem readG (k : List (Nat × List Value)) : Read (memG k) := by
  intro B b hB
  obtain ⟨p, _, p2⟩ := List.mem_map.1 (setL_mem _ _ hB)
  cases p2
  rfl

end Go.VI
