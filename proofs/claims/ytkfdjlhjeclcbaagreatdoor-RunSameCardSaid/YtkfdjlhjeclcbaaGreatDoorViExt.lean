/-
  VI: how a new block comes into memory.
-/
import Derived.Test.YtkfdjlhjeclcbaaGreatDoorViNew
import Derived.Laws.CopyRow
namespace Go.VI
open Go
noncomputable section

section
variable {cx : Cx} {ι ι' : Emb} {D D' : Nat → Prop} {σ : Mem} {w w' : World}

/-- A number comes to stand for a place. -/
def upd (ι : Emb) (id : Nat) (e : Em) : Emb := fun b => if b = id then e else ι b

def addD (D : Nat → Prop) (id : Nat) : Nat → Prop := fun b => D b ∨ b = id

theorem upd_same (id : Nat) (e : Em) : upd ι id e id = e := by simp [upd]

theorem upd_other {id B : Nat} {e : Em} (h : B ≠ id) : upd ι id e B = ι B := by simp [upd, h]

theorem upd_ext {id : Nat} {e : Em} (h : ¬ D id) : Ext ι D (upd ι id e) (addD D id) :=
  ⟨fun _ hB => .inl hB, fun B hB => upd_other fun he => h (by rw [← he]; exact hB)⟩

theorem renE_ext (h : Ext ι D ι' D') {x : MapEntry} (hx : vok ι D x.val) : renE ι' x = renE ι x := by
  simp only [renE, h.ren hx]

theorem BR_mono (h : Ext ι D ι' D') {b : Blk} {e : Em} (hw : lies b = true → w'.heap[e.blk]? = w.heap[e.blk]?) (hb : BR ι D b e w) : BR ι' D' b e w' := by
  have cr : ∀ cs c, cellsR ι D cs e c → cellsR ι' D' cs e c := fun cs c ⟨h1, h2, h3⟩ => ⟨h1, h2, fun i v hv => by
    obtain ⟨h4, h5⟩ := h3 i v hv
    exact ⟨by rw [h.ren h5]; exact h4, h.vok h5⟩⟩
  cases b with
  | cells cs f s =>
    obtain ⟨c, t, h1, h2⟩ := hb
    exact ⟨c, t, by rw [hw rfl]; exact h1, cr _ _ h2⟩
  | ro cs =>
    obtain ⟨⟨c, t, fz, h1, h2⟩, h3⟩ := hb
    exact ⟨⟨c, t, fz, by rw [hw rfl]; exact h1, cr _ _ h2⟩, h3⟩
  | view s => exact hb
  | map es clock =>
    obtain ⟨h1, h2⟩ := hb
    have e1 : es.map (renE ι') = es.map (renE ι) := List.map_congr_left fun x hx => renE_ext h (h2 x hx).2.2
    refine ⟨by rw [hw rfl, e1]; exact h1, fun x hx => ?_⟩
    obtain ⟨h3, h4, h5⟩ := h2 x hx
    exact ⟨h.vok h3, by rw [h.ren h3]; exact h4, h.vok h5⟩
  | loop r =>
    obtain ⟨l, h1, h2⟩ := hb
    exact ⟨l, by rw [hw rfl]; exact h1, h2.st, h2.pend, h2.params, h2.asg, h2.body, by rw [h.em _ h2.dom]; exact h2.defers, h.dom _ h2.dom, h2.t.ext h⟩
  | defs o =>
    show w'.heap[e.blk]? = _
    rw [hw rfl]
    exact hb

theorem BR_lt {b : Blk} {e : Em} (hb : BR ι D b e w) (hl : lies b = true) : e.blk < w.heap.size := by
  have lt : ∀ {o}, w.heap[e.blk]? = some o → e.blk < w.heap.size := fun h => (Array.getElem?_eq_some_iff.1 h).1
  cases b with
  | cells cs f s => obtain ⟨c, t, h1, _⟩ := hb; exact lt h1
  | ro cs => obtain ⟨⟨c, t, fz, h1, _⟩, _⟩ := hb; exact lt h1
  | view s => cases hl
  | map es clock => exact lt hb.1
  | loop r => obtain ⟨l, h1, _⟩ := hb; exact lt h1
  | defs o => exact lt hb

theorem Globs.ext (h : Ext ι D ι' D') (g : Globs ι D) : Globs ι' D' := fun k hk => by
  obtain ⟨h1, h2, h3⟩ := g k hk
  rw [h.em _ h1]
  exact ⟨h.dom _ h1, h2, h3⟩

/-- **THE SAME MEMORY IN A LARGER WORLD.** -/
theorem Rel.grow (R : Rel ι D σ w) (h : Ext ι D ι' D') (hD : ∀ B, D' B → B < σ.next) (hw : ∀ B b, σ.h.get B = some b → lies b = true → w'.heap[(ι B).blk]? = w.heap[(ι B).blk]?) : Rel ι' D' σ w' where
  full := R.full
  fullF := R.fullF
  glob := R.glob.ext h
  low := R.low
  next := hD
  live B b hB := by
    obtain ⟨h1, h2⟩ := R.live B b hB
    rw [h.em _ h1]
    exact ⟨h.dom _ h1, BR_mono h (hw B b hB) h2⟩
  inj B B' b b' hB hB' hl hl' he := by
    rw [h.em _ (R.live B b hB).1, h.em _ (R.live B' b' hB').1] at he
    rw [h.em _ (R.live B b hB).1, h.em _ (R.live B' b' hB').1]
    exact R.inj B B' b b' hB hB' hl hl' he
  fam := R.fam
  exact B cs f s hB hf := by
    rw [h.em _ (R.live B _ hB).1]
    exact R.exact B cs f s hB hf
  famN := R.famN
  bound := R.bound

/-- A number is kept for a block to come. -/
theorem Rel.skip (R : Rel ι D σ w) (hm : σ.next + 1 ≤ most) : Rel ι D { σ with next := σ.next + 1 } w where
  full := R.full
  fullF := R.fullF
  glob := R.glob
  low := Nat.le_succ_of_le R.low
  next B hB := Nat.lt_succ_of_lt (R.next B hB)
  live := R.live
  inj := R.inj
  fam B cs f s hB := ⟨Nat.lt_succ_of_lt (R.fam B cs f s hB).1, (R.fam B cs f s hB).2⟩
  exact := R.exact
  famN f hf := R.famN f (Nat.le_of_succ_le hf)
  bound := hm

/-- What lies where a block is to come, and whose it is. -/
structure Free (ι : Emb) (D : Nat → Prop) (σ : Mem) (id : Nat) (b : Blk) : Prop where
  dom : D id
  lone : lies b = true → ∀ B b', σ.h.get B = some b' → lies b' = true → (ι B).blk ≠ (ι id).blk
  fam : ∀ cs f s, b = .cells cs f s → f < σ.next ∧ id ∈ family σ f ∧ (σ.fams.get f = none → (ι id).limit = (ι id).shift + cs.length)

theorem deep_pow : (2 : Nat) ^ deep = 1048576 := by decide

/-- **A BLOCK COMES IN.** -/
theorem Rel.settle (R : Rel ι D σ w) {id : Nat} {b : Blk} (F : Free ι D σ id b) (hb : BR ι D b (ι id) w) : Rel ι D { σ with h := σ.h.set id (some b) } w := by
  have hp := deep_pow
  have hm := R.bound
  unfold most at hm
  have hlt : id + 1 < 2 ^ deep := by have := R.next id F.dom; omega
  have hg : ∀ B, (σ.h.set id (some b)).get B = if B = id then some b else σ.h.get B := fun B => get_set R.full _ _ _ hlt
  refine ⟨full_set R.full _ _, R.fullF, R.glob, R.low, R.next, fun B c hB => ?_, fun B B' c c' hB hB' hl hl' he => ?_, fun B cs f s hB => ?_, fun B cs f s hB hf => ?_, R.famN, R.bound⟩
  · simp only [hg] at hB
    split at hB
    · rename_i e; cases hB; rw [e]; exact ⟨F.dom, hb⟩
    · exact R.live B c hB
  · simp only [hg] at hB hB'
    split at hB <;> split at hB'
    · rename_i e1 e2; exact .inl (e1.trans e2.symm)
    · rename_i e1 e2
      cases hB
      rw [e1] at he
      exact (F.lone hl B' c' hB' hl' he.symm).elim
    · rename_i e1 e2
      cases hB'
      rw [e2] at he
      exact (F.lone hl' B c hB hl he).elim
    · exact R.inj B B' c c' hB hB' hl hl' he
  · simp only [hg] at hB
    split at hB
    · rename_i e
      cases hB
      rw [e]
      exact ⟨(F.fam cs f s rfl).1, (F.fam cs f s rfl).2.1⟩
    · exact R.fam B cs f s hB
  · simp only [hg] at hB
    split at hB
    · rename_i e
      cases hB
      rw [e]
      exact (F.fam cs f s rfl).2.2 hf
    · exact R.exact B cs f s hB hf

theorem alloc_size (o : Obj) : (w.alloc o).heap.size = w.heap.size + 1 := by simp [World.alloc, -World.alloc_eq]

theorem alloc_new (o : Obj) : (w.alloc o).heap[w.heap.size]? = some o := by simp [World.alloc, -World.alloc_eq]

theorem alloc_old (o : Obj) {b : Nat} (h : b < w.heap.size) : (w.alloc o).heap[b]? = w.heap[b]? := by simp [World.alloc, -World.alloc_eq, Array.getElem?_push, Nat.ne_of_lt h]

/-- What a new block is, where it comes to lie. -/
theorem NK.block {k : Kn} {cs : List Value} {e : Em} (h : NK ι D k cs e w w') {id : Nat} (hid : ¬ D id) :
    BR (upd ι id e) (addD D id) (blkOf k cs id) e w' ∧ (lies (blkOf k cs id) = true → e.blk = w.heap.size ∧ w'.heap.size = w.heap.size + 1) ∧
    (∀ c f s, blkOf k cs id = .cells c f s → f = id ∧ e.limit = e.shift + c.length) ∧
    (∀ b, b < w.heap.size → w'.heap[b]? = w.heap[b]?) ∧ w.heap.size ≤ w'.heap.size ∧ w'.tape = w.tape ∧ w'.os = w.os ∧ w'.output = w.output := by
  have hx := upd_ext (ι := ι) (e := e) hid
  cases h with
  | @cells _ _ t hv =>
    refine ⟨⟨_, t, alloc_new _, ?_, ?_, fun i v hi => ?_⟩, fun _ => ⟨rfl, alloc_size _⟩, fun c f s h => ?_, fun b hb => alloc_old _ hb, by rw [alloc_size]; omega, rfl, rfl, rfl⟩
    · simp
    · simp
    · have hm := hv v (List.mem_of_getElem? hi)
      simp only [Nat.zero_add, List.getElem?_toArray, List.getElem?_map, hi, Option.map_some]
      exact ⟨by rw [hx.ren hm], hx.vok hm⟩
    · simp only [blkOf] at h
      cases h
      exact ⟨rfl, by simp⟩
  | map =>
    exact ⟨⟨alloc_new _, by simp⟩, fun _ => ⟨rfl, alloc_size _⟩, fun c f s h => by simp [blkOf] at h, fun b hb => alloc_old _ hb, by rw [alloc_size]; omega, rfl, rfl, rfl⟩
  | view hs =>
    refine ⟨hs, fun h => by simp [blkOf, lies] at h, fun c f s h => by simp [blkOf] at h, fun b hb => rfl, Nat.le_refl _, rfl, rfl, rfl⟩

end
end
end Go.VI
