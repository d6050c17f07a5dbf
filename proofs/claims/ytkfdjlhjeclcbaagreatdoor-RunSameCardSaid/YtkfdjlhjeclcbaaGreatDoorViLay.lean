/-
  VI: memory with blocks that wait laid over it.
-/
import Derived.Test.YtkfdjlhjeclcbaaGreatDoorViNum
namespace Go.VI
open Go
noncomputable section

/-- Memory's tree with those that wait. -/
def lay (m : Pe → Option Blk) : List Pe → Tr Blk → Tr Blk
  | [], h => h
  | x :: r, h => match m x with
    | some b => lay m r (h.set x.id (some b))
    | none => lay m r h

theorem lay_full (m : Pe → Option Blk) {d : Nat} : ∀ (l : List Pe) {h : Tr Blk}, Full d h → Full d (lay m l h)
  | [], _, hf => hf
  | x :: r, h, hf => by
    simp only [lay]
    split
    · exact lay_full m r (full_set hf _ _)
    · exact lay_full m r hf

/-- Each has a number of its own, within the tree. -/
structure Own (m : Pe → Option Blk) (d : Nat) (l : List Pe) : Prop where
  one : l.Pairwise fun x y => m x ≠ none → m y ≠ none → x.id ≠ y.id
  lt : ∀ x ∈ l, m x ≠ none → x.id + 1 < 2 ^ d

theorem Own.tail {m : Pe → Option Blk} {d : Nat} {x : Pe} {l : List Pe} (h : Own m d (x :: l)) : Own m d l :=
  ⟨(List.pairwise_cons.1 h.one).2, fun y hy => h.lt y (List.mem_cons_of_mem _ hy)⟩

theorem lay_out {m : Pe → Option Blk} {d : Nat} : ∀ (l : List Pe) {h : Tr Blk}, Full d h → Own m d l → ∀ {B : Nat}, (∀ x ∈ l, m x ≠ none → x.id ≠ B) → (lay m l h).get B = h.get B
  | [], _, _, _, _, _ => rfl
  | x :: r, h, hf, o, B, hn => by
    simp only [lay]
    split
    · rename_i b hb
      rw [lay_out r (full_set hf _ _) o.tail (fun y hy => hn y (List.mem_cons_of_mem _ hy)), get_set hf _ _ _ (o.lt x (by simp) (by rw [hb]; simp)), if_neg]
      exact fun he => hn x (by simp) (by rw [hb]; simp) he.symm
    · exact lay_out r hf o.tail (fun y hy => hn y (List.mem_cons_of_mem _ hy))

theorem lay_in {m : Pe → Option Blk} {d : Nat} : ∀ (l : List Pe) {h : Tr Blk}, Full d h → Own m d l → ∀ {x : Pe} {b : Blk}, x ∈ l → m x = some b → (lay m l h).get x.id = some b
  | [], _, _, _, x, _, hx, _ => by cases hx
  | y :: r, h, hf, o, x, b, hx, hb => by
    simp only [lay]
    rcases List.mem_cons.1 hx with rfl | hx
    · rw [hb]
      simp only
      rw [lay_out r (full_set hf _ _) o.tail (fun z hz hmz => fun he => (List.pairwise_cons.1 o.one).1 z hz (by rw [hb]; simp) hmz he.symm), get_set hf _ _ _ (o.lt x (by simp) (by rw [hb]; simp)), if_pos rfl]
    · split
      · exact lay_in r (full_set hf _ _) o.tail hx hb
      · exact lay_in r hf o.tail hx hb

theorem lay_cases {m : Pe → Option Blk} {d : Nat} {l : List Pe} {h : Tr Blk} (hf : Full d h) (o : Own m d l) {B : Nat} {b : Blk} (hg : (lay m l h).get B = some b) :
    (∃ x ∈ l, x.id = B ∧ m x = some b) ∨ ((∀ x ∈ l, m x ≠ none → x.id ≠ B) ∧ h.get B = some b) := by
  by_cases hx : ∃ x ∈ l, m x ≠ none ∧ x.id = B
  · obtain ⟨x, h1, h2, h3⟩ := hx
    cases hb : m x with
    | none => exact absurd hb h2
    | some b' =>
      have := lay_in l hf o h1 hb
      rw [h3, hg] at this
      cases this
      exact .inl ⟨x, h1, h3, hb⟩
  · have hn : ∀ x ∈ l, m x ≠ none → x.id ≠ B := fun x h1 h2 h3 => hx ⟨x, h1, h2, h3⟩
    rw [lay_out l hf o hn] at hg
    exact .inr ⟨hn, hg⟩

section
variable {cx : Cx} {ι ι' : Emb} {D D' : Nat → Prop} {σ σ' : Mem} {w w' : World}

theorem settleAll_lay : ∀ (l : List Pe) (σ : Mem), settleAll l σ = { σ with h := lay peBlk l σ.h }
  | [], σ => rfl
  | x :: r, σ => by
    simp only [settleAll, lay, settle1]
    rw [settleAll_lay r]
    cases hb : peBlk x <;> simp [settleB]

/-- Less memory is memory. -/
theorem Rel.sub (R : Rel ι D σ w) {h' : Tr Blk} (hf : Full deep h') (hs : ∀ B b, h'.get B = some b → σ.h.get B = some b) : Rel ι D { σ with h := h' } w where
  full := hf
  fullF := R.fullF
  glob := R.glob
  low := R.low
  next := R.next
  live B b hB := R.live B b (hs B b hB)
  inj B B' b b' hB hB' := R.inj B B' b b' (hs B b hB) (hs B' b' hB')
  fam B cs f s hB := R.fam B cs f s (hs B _ hB)
  exact B cs f s hB := R.exact B cs f s (hs B _ hB)
  famN := R.famN
  bound := R.bound

/-- **WHAT WAITS IS KEPT, WHATEVER ACTS.** -/
theorem frame_lay {m : Pe → Option Blk} {l : List Pe} (R : Rel ι D { σ with h := lay m l σ.h } w) (hf : Full deep σ.h) (o : Own m deep l)
    (hid : ∀ x ∈ l, m x ≠ none → x.id < σ.next ∧ σ.h.get x.id = none) (hcl : ∀ x ∈ l, ∀ cs f s, m x = some (.cells cs f s) → f = x.id ∧ σ.fams.get f = none ∧ ∀ B cs s, σ.h.get B ≠ some (.cells cs f s))
    (g : Go1 ι D σ w ι' D' σ' w') (R' : Rel ι' D' σ' w') : Rel ι' D' { σ' with h := lay m l σ'.h } w' := by
  have hid' : ∀ x ∈ l, m x ≠ none → σ'.h.get x.id = none := by
    intro x hx hm
    cases hg : σ'.h.get x.id with
    | none => rfl
    | some b =>
      obtain ⟨h1, h2⟩ := hid x hx hm
      rcases g.live _ _ hg with h | ⟨b0, h⟩
      · omega
      · rw [h2] at h; cases h
  have hold : ∀ B b, σ.h.get B = some b → (lay m l σ.h).get B = some b := by
    intro B b hB
    rw [lay_out l hf o (fun x hx hm he => by rw [← he, (hid x hx hm).2] at hB; cases hB)]
    exact hB
  have hY : ∀ x ∈ l, ∀ b, m x = some b → D x.id ∧ BR ι D b (ι x.id) w := fun x hx b hb => R.live _ _ (lay_in l hf o hx hb)
  have hemb : ∀ x ∈ l, ∀ b, m x = some b → ι' x.id = ι x.id := fun x hx b hb => g.ext.em _ (hY x hx b hb).1
  -- nothing that was at hand lies where one of them lies
  have lone : ∀ x ∈ l, ∀ b, m x = some b → lies b = true → ∀ B b0, σ.h.get B = some b0 → lies b0 = true → (ι B).blk ≠ (ι x.id).blk := by
    intro x hx b hb hl B b0 hB hl0 he
    rcases R.inj B x.id b0 b (hold B b0 hB) (lay_in l hf o hx hb) hl0 hl he with h | h
    · rw [h, (hid x hx (by rw [hb]; simp)).2] at hB; cases hB
    · cases b <;> cases b0 <;> simp only [kin] at h
      obtain ⟨h1, _⟩ := h
      subst h1
      exact (hcl x hx _ _ _ hb).2.2 B _ _ hB
  have far : ∀ x ∈ l, ∀ b, m x = some b → lies b = true → ∀ B b0, σ'.h.get B = some b0 → lies b0 = true → (ι' B).blk ≠ (ι x.id).blk := by
    intro x hx b hb hl B b0 hB hl0 he
    rcases g.range B b0 hB hl0 with h | ⟨B1, b1, h1, h2, _, h3⟩
    · have := BR_lt (hY x hx b hb).2 hl
      omega
    · exact lone x hx b hb hl B1 b1 h1 h2 (h3.trans he)
  have hc := fun B b hB => lay_cases (B := B) (b := b) R'.full o hB
  refine ⟨lay_full m l R'.full, R'.fullF, R'.glob, R'.low, R'.next, fun B b hB => ?_, fun B B' b b' hB hB' hl hl' he => ?_, fun B cs f s hB => ?_, fun B cs f s hB hn => ?_, R'.famN, R'.bound⟩
  · rcases hc B b hB with ⟨x, hx, rfl, hb⟩ | ⟨_, hB⟩
    · obtain ⟨h1, h2⟩ := hY x hx b hb
      rw [hemb x hx b hb]
      refine ⟨g.ext.dom _ h1, BR_mono g.ext (fun hl => g.frame _ (BR_lt h2 hl) fun B b0 hB hw => lone x hx b hb hl B b0 hB (writes_lies hw)) h2⟩
    · exact R'.live B b hB
  · rcases hc B b hB with ⟨x, hx, rfl, hb⟩ | ⟨_, hB⟩ <;> rcases hc B' b' hB' with ⟨y, hy, rfl, hb'⟩ | ⟨_, hB'⟩
    · rw [hemb x hx b hb, hemb y hy b' hb'] at he ⊢
      exact R.inj _ _ _ _ (lay_in l hf o hx hb) (lay_in l hf o hy hb') hl hl' he
    · rw [hemb x hx b hb] at he
      exact (far x hx b hb hl B' b' hB' hl' he.symm).elim
    · rw [hemb y hy b' hb'] at he
      exact (far y hy b' hb' hl' B b hB hl he).elim
    · exact R'.inj B B' b b' hB hB' hl hl' he
  · rcases hc B _ hB with ⟨x, hx, rfl, hb⟩ | ⟨_, hB⟩
    · obtain ⟨h1, h2, h3⟩ := hcl x hx cs f s hb
      have hlt : f < σ.next := by rw [h1]; exact (hid x hx (by rw [hb]; simp)).1
      refine ⟨Nat.lt_of_lt_of_le hlt g.next, ?_⟩
      have := (g.fams f hlt h3).1
      show x.id ∈ famL (σ'.fams.get f) f
      rw [this, h2, h1]
      simp [famL]
    · exact R'.fam B cs f s hB
  · rcases hc B _ hB with ⟨x, hx, rfl, hb⟩ | ⟨_, hB⟩
    · obtain ⟨h1, h2, h3⟩ := hcl x hx cs f s hb
      rw [hemb x hx _ hb]
      exact R.exact _ cs f s (lay_in l hf o hx hb) h2
    · exact R'.exact B cs f s hB hn

end
end
end Go.VI
