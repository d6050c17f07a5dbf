/-
  VI: what changes memory: new blocks, stores, maps.
-/
import Derived.Test.YtkfdjlhjeclcbaaGreatDoorViExt
namespace Go.VI
open Go
noncomputable section

section
variable {cx : Cx} {ι ι' : Emb} {D D' : Nat → Prop} {σ : Mem} {w w' : World}

/-- A new block, come in at once. -/
theorem new_sound (R : Rel ι D σ w) (hm : σ.next + 4 ≤ most) {k : Kn} {cs : List Value} {e : Em} (h : NK ι D k cs e w w') :
    Rel (upd ι σ.next e) (addD D σ.next) { σ with h := σ.h.set σ.next (some (blkOf k cs σ.next)), next := σ.next + 1 } w' ∧
    Go1 ι D σ w (upd ι σ.next e) (addD D σ.next) { σ with h := σ.h.set σ.next (some (blkOf k cs σ.next)), next := σ.next + 1 } w' := by
  have hid : ¬ D σ.next := fun hD => Nat.lt_irrefl _ (R.next _ hD)
  obtain ⟨h1, h2, h3, h4, h5, h6, h7, h8⟩ := h.block hid
  have hx := upd_ext (ι := ι) (e := e) hid
  have R1 : Rel (upd ι σ.next e) (addD D σ.next) { σ with next := σ.next + 1 } w' :=
    (R.skip (by omega)).grow hx (fun B hB => by
      rcases hB with hB | hB
      · exact Nat.lt_succ_of_lt (R.next B hB)
      · rw [hB]; exact Nat.lt_succ_self _) (fun B b hB hl => h4 _ (BR_lt (R.live B b hB).2 hl))
  have R2 := R1.settle (id := σ.next) (b := blkOf k cs σ.next) ⟨.inr rfl, fun hl B b' hB hl' he => by
      rw [upd_same, (h2 hl).1, upd_other (fun e => by rw [e] at hB; exact hid (R.live _ _ hB).1)] at he
      have := BR_lt (R.live B b' hB).2 hl'
      omega, fun c f s hc => by
      obtain ⟨g1, g2⟩ := h3 c f s hc
      have hn := R.famN σ.next (Nat.le_refl _)
      subst g1
      exact ⟨Nat.lt_succ_self _, by simp [family, hn, famL], fun _ => by rw [upd_same]; exact g2⟩⟩ (by rw [upd_same]; exact h1)
  have hlv : ∀ B blk, (σ.h.set σ.next (some (blkOf k cs σ.next))).get B = some blk → σ.next ≤ B ∨ ∃ b, σ.h.get B = some b := by
    intro B blk hB
    have hlt : σ.next + 1 < 2 ^ deep := by rw [deep_pow]; unfold most at hm; omega
    rw [get_set R.full _ _ _ hlt] at hB
    split at hB
    · rename_i e; exact .inl (by omega)
    · exact .inr ⟨_, hB⟩
  refine ⟨R2, hx, fun B hB => ?_, Nat.le_succ _, h5, fun b hb _ => h4 b hb, fun B blk hB hl => ?_, hlv, fun f hf hn => ⟨rfl, fun B c s hB => ?_⟩, h6, h7, h8⟩
  · rcases hB with hB | hB
    · exact .inl hB
    · exact .inr (by rw [hB]; exact Nat.le_refl _)
  · have hlt : σ.next + 1 < 2 ^ deep := by rw [deep_pow]; unfold most at hm; omega
    simp only [get_set R.full _ _ _ hlt] at hB
    split at hB
    · rename_i he
      cases hB
      left
      rw [he, upd_same, (h2 hl).1]
      exact Nat.le_refl _
    · rename_i he
      refine .inr ⟨B, blk, hB, hl, id, ?_⟩
      rw [upd_other he]
  · have hlt : σ.next + 1 < 2 ^ deep := by rw [deep_pow]; unfold most at hm; omega
    simp only [get_set R.full _ _ _ hlt] at hB
    split at hB
    · rename_i he
      cases hb : blkOf k cs σ.next <;> rw [hb] at hB <;> simp only [Option.some.injEq, reduceCtorEq] at hB
      cases hB
      have := (h3 _ _ _ hb).1
      omega
    · exact hn B c s hB

/-! ### Stores -/

theorem get_none_sub {t : Tr Blk} : ∀ {k B : Nat} {b : Blk}, (t.set k none).get B = some b → t.get B = some b := by
  induction t with
  | lf => intro k B b h; cases h
  | nd v l r ihl ihr =>
    intro k B b h
    cases k with
    | zero =>
      cases B with
      | zero => cases h
      | succ B => rw [get_nd]; rw [show (Tr.nd v l r).set 0 none = .nd none l r from rfl, get_nd] at h; exact h
    | succ k =>
      rw [set_nd] at h
      cases B with
      | zero => split at h <;> exact h
      | succ B =>
        rw [get_nd]
        split at h
        · rw [get_nd] at h
          split at h
          · rename_i hb; rw [if_pos hb]; exact ihl h
          · rename_i hb; rw [if_neg hb]; exact h
        · rw [get_nd] at h
          split at h
          · rename_i hb; rw [if_pos hb]; exact h
          · rename_i hb; rw [if_neg hb]; exact ihr h

theorem killAll_full {me lo n d : Nat} : ∀ (l : List Nat) {h : Tr Blk}, Full d h → Full d (killAll me lo n l h)
  | [], _, hf => hf
  | c :: r, h, hf => by
    simp only [killAll]
    split
    · exact killAll_full r hf
    · split
      · exact killAll_full r (full_set hf _ _)
      · exact killAll_full r hf

theorem killAll_sub {me lo n : Nat} : ∀ (l : List Nat) {h : Tr Blk} {B : Nat} {b : Blk}, (killAll me lo n l h).get B = some b → h.get B = some b
  | [], _, _, _, hg => hg
  | c :: r, h, B, b, hg => by
    simp only [killAll] at hg
    split at hg
    · exact killAll_sub r hg
    · split at hg
      · exact get_none_sub (killAll_sub r hg)
      · exact killAll_sub r hg

/-- What is left lies nowhere where it is written. -/
theorem killAll_get {me lo n d : Nat} : ∀ (l : List Nat) {h : Tr Blk}, Full d h → ∀ {B : Nat} {b : Blk}, (killAll me lo n l h).get B = some b → B + 1 < 2 ^ d →
    h.get B = some b ∧ (B ∈ l → B ≠ me → overlaps (some b) lo n = false)
  | [], _, _, B, b, hg, _ => ⟨hg, fun h => by cases h⟩
  | c :: r, h, hf, B, b, hg, hB => by
    simp only [killAll] at hg
    split at hg
    · rename_i hc
      have hc := beq_eq hc
      obtain ⟨h1, h2⟩ := killAll_get r hf hg hB
      refine ⟨h1, fun hm hne => ?_⟩
      rcases List.mem_cons.1 hm with rfl | hm
      · exact absurd hc hne
      · exact h2 hm hne
    · split at hg
      · rename_i ho
        obtain ⟨h1, h2⟩ := killAll_get r (full_set hf _ _) hg hB
        have h3 := get_none_sub h1
        refine ⟨h3, fun hm hne => ?_⟩
        rcases List.mem_cons.1 hm with rfl | hm
        · rw [get_set hf _ _ _ hB, if_pos rfl] at h1; cases h1
        · exact h2 hm hne
      · rename_i ho
        obtain ⟨h1, h2⟩ := killAll_get r hf hg hB
        refine ⟨h1, fun hm hne => ?_⟩
        rcases List.mem_cons.1 hm with rfl | hm
        · rw [← h1]; exact ho
        · exact h2 hm hne

theorem overwrite_get : ∀ (vs cs : List Value) (i j : Nat), i + vs.length ≤ cs.length → (overwrite cs i vs)[j]? = if i ≤ j ∧ j < i + vs.length then vs[j - i]? else cs[j]?
  | [], cs, i, j, _ => by
    simp only [overwrite, List.length_nil, Nat.add_zero]
    rw [if_neg (by omega)]
  | v :: r, cs, i, j, h => by
    simp only [overwrite, List.length_cons] at *
    rw [overwrite_get r _ _ _ (by simp; omega)]
    by_cases h1 : i + 1 ≤ j ∧ j < i + 1 + r.length
    · rw [if_pos h1, if_pos (by omega), show j - i = (j - (i + 1)) + 1 by omega, List.getElem?_cons_succ]
    · rw [if_neg h1]
      by_cases h2 : j = i
      · subst h2
        rw [if_pos (by omega), List.getElem?_set_self (by omega)]
        simp
      · rw [if_neg (by omega), List.getElem?_set_ne (by omega)]

/-- What a row is, whose cells are written from a place on. -/
theorem written_get (c : Array Value) (o : Nat) (vs : List Value) (j : Nat) (h : o + vs.length ≤ c.size) :
    (c.toList.take o ++ vs ++ c.toList.drop (o + vs.length)).toArray[j]? = if o ≤ j ∧ j < o + vs.length then vs[j - o]? else c[j]? := by
  have ho : min o c.size = o := by omega
  simp only [List.getElem?_toArray, List.getElem?_append, List.length_append, List.length_take, Array.length_toList, ho, List.getElem?_take, List.getElem?_drop]
  by_cases h1 : j < o
  · rw [if_pos (by omega), if_pos h1, if_pos h1, if_neg (by omega)]
    simp
  · by_cases h2 : j < o + vs.length
    · rw [if_pos h2, if_neg h1, if_pos (by omega)]
    · rw [if_neg h2, if_neg (by omega), show o + vs.length + (j - (o + vs.length)) = j by omega]
      simp

theorem areCells_one : ∀ {xs : List Value}, areCells xs = true → ∀ v ∈ xs, (ren ι v).oneCell' = true
  | [], _, v, hv => by cases hv
  | x :: r, h, v, hv => by
    simp only [areCells] at h
    obtain ⟨h1, h2⟩ := and_true h
    rcases List.mem_cons.1 hv with rfl | hv
    · cases v with
      | pointer a => cases a <;> simp [ren, Value.oneCell']
      | slice a _ _ => cases a <;> simp [ren, Value.oneCell']
      | map a => cases a <;> simp [ren, Value.oneCell']
      | _ => simp_all [isCell, ren, Value.oneCell']
    · exact areCells_one h2 v hv

/-- Memory, when some cells of one block are written: whoever is kept lies nowhere there. -/
theorem write_gen (R : Rel ι D σ w) {b : Nat} {cs : List Value} {fam start off : Nat} {xs : List Value} (hb : σ.h.get b = some (.cells cs fam start))
    (hx : ∀ v ∈ xs, vok ι D v) (hfit : off + xs.length ≤ cs.length) {c : Array Value} {t : TypeId} (hc : w.heap[(ι b).blk]? = some (.cells c t (0, 0))) (hcr : cellsR ι D cs (ι b) c)
    {h1 : Tr Blk} (hkf : Full deep h1) (hsub : ∀ B blk, h1.get B = some blk → B ≠ b → σ.h.get B = some blk)
    (hno : ∀ B cs' s', h1.get B = some (.cells cs' fam s') → B ≠ b → overlaps (some (.cells cs' fam s')) (start + off) xs.length = false) :
    Rel ι D { σ with h := h1.set b (some (.cells (overwrite cs off xs) fam start)) }
      (w.setRow (ι b).blk (c.toList.take ((ι b).shift + off) ++ xs.map (ren ι) ++ c.toList.drop ((ι b).shift + off + (xs.map (ren ι)).length)).toArray) ∧
    Go1 ι D σ w ι D { σ with h := h1.set b (some (.cells (overwrite cs off xs) fam start)) }
      (w.setRow (ι b).blk (c.toList.take ((ι b).shift + off) ++ xs.map (ren ι) ++ c.toList.drop ((ι b).shift + off + (xs.map (ren ι)).length)).toArray) := by
  have hbD := (R.live b _ hb).1
  have hlt : ∀ B, B < σ.next → B + 1 < 2 ^ deep := fun B h => by have := R.bound; rw [deep_pow]; unfold most at this; omega
  have hbl := hlt b (R.next b hbD)
  obtain ⟨c1, c2, c3⟩ := hcr
  have hlen : (xs.map (ren ι)).length = xs.length := by simp
  have hw := fun j => written_get c ((ι b).shift + off) (xs.map (ren ι)) j (by rw [hlen]; omega)
  have hself := setRow_heap w (ι b).blk c (c.toList.take ((ι b).shift + off) ++ xs.map (ren ι) ++ c.toList.drop ((ι b).shift + off + (xs.map (ren ι)).length)).toArray t (0, 0) hc
  generalize hrow : (c.toList.take ((ι b).shift + off) ++ xs.map (ren ι) ++ c.toList.drop ((ι b).shift + off + (xs.map (ren ι)).length)).toArray = row at *
  have hsz : row.size = c.size := by
    rw [← hrow]
    simp
    omega
  have hother := fun k (h : k ≠ (ι b).blk) => setRow_other w (ι b).blk k row h
  have hcases : ∀ B blk, (h1.set b (some (.cells (overwrite cs off xs) fam start))).get B = some blk →
      (B = b ∧ blk = .cells (overwrite cs off xs) fam start) ∨ (B ≠ b ∧ σ.h.get B = some blk ∧ ∀ cs' s', blk = .cells cs' fam s' → overlaps (some blk) (start + off) xs.length = false) := by
    intro B blk hB
    rw [get_set hkf _ _ _ hbl] at hB
    split at hB
    · rename_i e; cases hB; exact .inl ⟨e, rfl⟩
    · rename_i e
      refine .inr ⟨e, hsub B blk hB e, fun cs' s' hh => ?_⟩
      rw [hh] at hB ⊢
      exact hno B cs' s' hB e
  refine ⟨⟨full_set hkf _ _, R.fullF, R.glob, R.low, R.next, fun B blk hB => ?_, fun B B' c1 c2 hB hB' hl hl' he => ?_, fun B c' f s hB => ?_, fun B c' f s hB hf => ?_, R.famN, R.bound⟩,
    Ext.refl _ _, fun B h => .inl h, Nat.le_refl _, by simp, fun k hk hn => ?_, fun B blk hB hl => ?_, fun B blk hB => .inr ?_, fun f hf hn => ⟨rfl, fun B c' s hB => ?_⟩, rfl, rfl, rfl⟩
  · rcases hcases B blk hB with ⟨rfl, rfl⟩ | ⟨hne, ho, hov⟩
    · refine ⟨hbD, row, t, hself, by rw [overwrite_length]; exact c1, by omega, fun i v hi => ?_⟩
      rw [overwrite_get xs cs off i hfit] at hi
      rw [hw, hlen]
      split at hi
      · rename_i hr
        rw [if_pos (by omega), show (ι B).shift + i - ((ι B).shift + off) = i - off by omega, List.getElem?_map, hi]
        exact ⟨rfl, hx v (List.mem_of_getElem? hi)⟩
      · rename_i hr
        rw [if_neg (by omega)]
        exact c3 i v hi
    · obtain ⟨hD, hbr⟩ := R.live B blk ho
      refine ⟨hD, ?_⟩
      by_cases hl : lies blk = true
      · by_cases he : (ι B).blk = (ι b).blk
        · rcases R.inj B b blk _ ho hb hl rfl he with h1 | h1
          · exact absurd h1 hne
          · cases blk with
            | cells cs' f' s' =>
              obtain ⟨k1, k2⟩ := h1
              subst k1
              obtain ⟨c', t', g1, g2, g3, g4⟩ := hbr
              rw [he, hc] at g1
              cases g1
              refine ⟨row, t, by rw [he]; exact hself, g2, by omega, fun i v hi => ?_⟩
              have hi' := (List.getElem?_eq_some_iff.1 hi).1
              have hov := hov _ _ rfl
              have hov' : ¬ (s' + 1 ≤ start + off + xs.length ∧ start + off + 1 ≤ s' + cs'.length) := by
                intro ⟨q1, q2⟩
                rw [overlaps, Nat.ble_eq_true_of_le q1, Nat.ble_eq_true_of_le q2] at hov
                cases hov
              rw [hw, hlen, if_neg (by omega)]
              exact g4 i v hi
            | _ => exact h1.elim
        · exact BR_mono (Ext.refl _ _) (fun _ => hother _ he) hbr
      · exact BR_mono (Ext.refl _ _) (fun h => absurd h hl) hbr
  · have old : ∀ B blk, (h1.set b (some (.cells (overwrite cs off xs) fam start))).get B = some blk → ∃ blk0, σ.h.get B = some blk0 ∧ lies blk0 = lies blk ∧
        (∀ blk' e e', kin blk0 blk' e e' → kin blk blk' e e') ∧ (∀ blk' e e', kin blk' blk0 e e' → kin blk' blk e e') := by
      intro B blk hB
      rcases hcases B blk hB with ⟨rfl, rfl⟩ | ⟨hne, ho, hov⟩
      · exact ⟨_, hb, rfl, fun blk' e e' h => by cases blk' <;> exact h, fun blk' e e' h => by cases blk' <;> exact h⟩
      · exact ⟨_, ho, rfl, fun _ _ _ h => h, fun _ _ _ h => h⟩
    obtain ⟨b1, o1, l1, k1, _⟩ := old B c1 hB
    obtain ⟨b2, o2, l2, _, k2⟩ := old B' c2 hB'
    rcases R.inj B B' b1 b2 o1 o2 (l1.trans hl) (l2.trans hl') he with h | h
    · exact .inl h
    · exact .inr (k2 _ _ _ (k1 _ _ _ h))
  · rcases hcases B _ hB with ⟨rfl, h⟩ | ⟨hne, ho, hov⟩
    · cases h; exact R.fam B _ _ _ hb
    · exact R.fam B _ _ _ ho
  · rcases hcases B _ hB with ⟨rfl, h⟩ | ⟨hne, ho, hov⟩
    · cases h; rw [overwrite_length]; exact R.exact B _ _ _ hb hf
    · exact R.exact B _ _ _ ho hf
  · exact hother k (fun h => hn b _ hb rfl h.symm)
  · rcases hcases B _ hB with ⟨rfl, h⟩ | ⟨hne, ho, hov⟩
    · subst h; exact .inr ⟨B, _, hb, rfl, fun _ => rfl, rfl⟩
    · exact .inr ⟨B, blk, ho, hl, id, rfl⟩
  · rcases hcases B _ hB with ⟨rfl, h⟩ | ⟨hne, ho, hov⟩
    · exact ⟨_, hb⟩
    · exact ⟨_, ho⟩
  · rcases hcases B _ hB with ⟨rfl, h⟩ | ⟨hne, ho, hov⟩
    · cases h; exact hn B _ _ hb
    · exact hn B _ _ ho

/-- Memory, when some cells of one block are written. -/
theorem write_sound (R : Rel ι D σ w) {b : Nat} {cs : List Value} {fam start off : Nat} {xs : List Value} (hb : σ.h.get b = some (.cells cs fam start))
    (hx : ∀ v ∈ xs, vok ι D v) (hfit : off + xs.length ≤ cs.length) {c : Array Value} {t : TypeId} (hc : w.heap[(ι b).blk]? = some (.cells c t (0, 0))) (hcr : cellsR ι D cs (ι b) c) :
    Rel ι D { σ with h := (killAll b (start + off) xs.length (family σ fam) σ.h).set b (some (.cells (overwrite cs off xs) fam start)) }
      (w.setRow (ι b).blk (c.toList.take ((ι b).shift + off) ++ xs.map (ren ι) ++ c.toList.drop ((ι b).shift + off + (xs.map (ren ι)).length)).toArray) ∧
    Go1 ι D σ w ι D { σ with h := (killAll b (start + off) xs.length (family σ fam) σ.h).set b (some (.cells (overwrite cs off xs) fam start)) }
      (w.setRow (ι b).blk (c.toList.take ((ι b).shift + off) ++ xs.map (ren ι) ++ c.toList.drop ((ι b).shift + off + (xs.map (ren ι)).length)).toArray) := by
  have hlt : ∀ B, B < σ.next → B + 1 < 2 ^ deep := fun B h => by have := R.bound; rw [deep_pow]; unfold most at this; omega
  refine write_gen R hb hx hfit hc hcr (killAll_full _ R.full) (fun B blk hB _ => killAll_sub _ hB) (fun B cs' s' hB hne => ?_)
  have h1 := killAll_sub _ hB
  exact (killAll_get _ R.full hB (hlt B (R.next B (R.live B _ h1).1))).2 (R.fam B _ _ _ h1).2 hne

theorem over_ok {cs cs' : List Value} {off n : Nat} {x : Value} (h : over cs off n x = some cs') : x.cells.size = n ∧ off + n ≤ cs.length ∧ areCells x.cells.toList = true ∧ cs' = overwrite cs off x.cells.toList := by
  unfold over at h
  split at h
  · rename_i hb
    cases h
    obtain ⟨h1, h2⟩ := and_true hb
    obtain ⟨h1, h3⟩ := and_true h1
    exact ⟨beq_eq h1, ble_le h3, h2, rfl⟩
  · cases h

theorem storeB_ok {t : TypeId} {b off : Nat} {x : Value} {cs' : List Value} {fam start n : Nat} (h : storeB cx σ t b off x = some (cs', fam, start, n)) :
    ∃ cs, σ.h.get b = some (.cells cs fam start) ∧ sizeOf? cx t = some n ∧ x.cells.size = n ∧ off + n ≤ cs.length ∧ areCells x.cells.toList = true ∧ cs' = overwrite cs off x.cells.toList := by
  unfold storeB at h
  cases hc : cellsW (σ.h.get b) with
  | none => rw [hc] at h; cases h
  | some r =>
    obtain ⟨cs, f, s⟩ := r
    rw [hc] at h
    simp only at h
    cases hs : sizeOf? cx t with
    | none => rw [hs] at h; cases h
    | some m =>
      rw [hs] at h
      simp only at h
      cases ho : over cs off m x with
      | none => rw [ho] at h; cases h
      | some c =>
        rw [ho] at h
        cases h
        have hg : σ.h.get b = some (.cells cs fam start) := by
          unfold cellsW at hc
          split at hc
          · rename_i hh; cases hc; exact hh
          · cases hc
        obtain ⟨h1, h2, h3, h4⟩ := over_ok ho
        exact ⟨cs, hg, rfl, h1, h2, h3, h4⟩

/-- **A STORE.** -/
theorem store_sound (ok : CxOk cx) (R : Rel ι D σ w) {t : TypeId} {a x : Value} {σ' : Mem} (hx : vok ι D x) (h : storeA cx σ t a x = .ok σ') :
    ∃ w', (Instr.storeAt t (ren ι a) (ren ι x)).run cx.P w = .ok () w' ∧ Rel ι D σ' w' ∧ Go1 ι D σ w ι D σ' w' := by
  unfold storeA at h
  split at h
  · rename_i b off
    cases hs : storeB cx σ t b off x with
    | none => rw [hs] at h; cases h
    | some r =>
      obtain ⟨cs', fam, start, n⟩ := r
      rw [hs] at h
      cases h
      obtain ⟨cs, h1, h2, h3, h4, h5, rfl⟩ := storeB_ok hs
      obtain ⟨hD, c, ty, hc, hcr⟩ := R.live b _ h1
      have hn : x.cells.toList.length = n := by simpa using h3
      have key := write_sound R h1 (xs := x.cells.toList) (off := off) (vok_cells hx) (by omega) hc hcr
      rw [hn] at key
      refine ⟨_, ?_, key⟩
      have hlen : (x.cells.toList.map (ren ι)).length = n := by simp [h3]
      have hst := run_storeCells_at cx.P (ι b).blk ((ι b).shift + off) ty (x.cells.toList.map (ren ι)) 0 c w hc (by obtain ⟨c1, c2, _⟩ := hcr; omega) (fun v hv => by
        obtain ⟨u, hu, rfl⟩ := List.mem_map.1 hv
        exact areCells_one h5 u hu)
      have hsz : (ren ι x).cells.size = n := by rw [← Array.length_toList, ren_cells]; exact hlen
      simp only [Instr.storeAt, Instr.sureAddr, ren, renA, Sem.run_bind, Sem.run_pure, Result.andThen_ok, storeVar, run_sizeOf' ok h2, hsz]
      rw [if_neg (by simp), ren_cells]
      simp only [hst, Nat.add_zero]
  · cases h

/-! ### Maps and records -/

def isCells : Blk → Bool
  | .cells .. => true
  | _ => false

theorem kin_cells {b b' : Blk} {e e' : Em} (h : kin b b' e e') : isCells b = true ∧ isCells b' = true := by
  cases b <;> cases b' <;> simp_all [kin, isCells]

/-- Memory, when a block that is no row changes. -/
theorem poke_sound (R : Rel ι D σ w) {b : Nat} {old new : Blk} (hb : σ.h.get b = some old) (h1 : isCells old = false) (h2 : writes old = true) (h3 : isCells new = false) (h4 : writes new = true)
    (ho : ∀ k, k ≠ (ι b).blk → w'.heap[k]? = w.heap[k]?) (hs : w'.heap.size = w.heap.size) (ht : w'.tape = w.tape) (hos : w'.os = w.os) (hou : w'.output = w.output) (hnew : BR ι D new (ι b) w') :
    Rel ι D { σ with h := σ.h.set b (some new) } w' ∧ Go1 ι D σ w ι D { σ with h := σ.h.set b (some new) } w' := by
  have hD := (R.live b _ hb).1
  have hlt : b + 1 < 2 ^ deep := by have := R.bound; have := R.next b hD; rw [deep_pow]; unfold most at *; omega
  have hg : ∀ B, (σ.h.set b (some new)).get B = if B = b then some new else σ.h.get B := fun B => get_set R.full _ _ _ hlt
  have hl := writes_lies h2
  have lone : ∀ B blk, B ≠ b → σ.h.get B = some blk → lies blk = true → (ι B).blk ≠ (ι b).blk := by
    intro B blk hne hB hlb he
    rcases R.inj B b blk old hB hb hlb hl he with h | h
    · exact hne h
    · rw [(kin_cells h).2] at h1; cases h1
  refine ⟨⟨full_set R.full _ _, R.fullF, R.glob, R.low, R.next, fun B blk hB => ?_, fun B B' c1 c2 hB hB' hl1 hl2 he => ?_, fun B c' f s hB => ?_, fun B c' f s hB hf => ?_, R.famN, R.bound⟩,
    Ext.refl _ _, fun B h => .inl h, Nat.le_refl _, by omega, fun k hk hn => ?_, fun B blk hB hl => ?_, fun B blk hB => .inr ?_, fun f hf hn => ⟨rfl, fun B c' s hB => ?_⟩, ht, hos, hou⟩
  · simp only [hg] at hB
    split at hB
    · rename_i e; cases hB; rw [e]; exact ⟨hD, hnew⟩
    · rename_i e
      obtain ⟨k1, k2⟩ := R.live B blk hB
      exact ⟨k1, BR_mono (Ext.refl _ _) (fun hlb => ho _ (lone B blk e hB hlb)) k2⟩
  · simp only [hg] at hB hB'
    split at hB <;> split at hB'
    · rename_i e1 e2; exact .inl (e1.trans e2.symm)
    · rename_i e1 e2; cases hB; rw [e1] at he; exact (lone B' c2 e2 hB' hl2 he.symm).elim
    · rename_i e1 e2; cases hB'; rw [e2] at he; exact (lone B c1 e1 hB hl1 he).elim
    · exact R.inj B B' c1 c2 hB hB' hl1 hl2 he
  · simp only [hg] at hB
    split at hB
    · cases hB; cases h3
    · exact R.fam B _ _ _ hB
  · simp only [hg] at hB
    split at hB
    · cases hB; cases h3
    · exact R.exact B _ _ _ hB hf
  · exact ho k fun h => hn b old hb h2 h.symm
  · simp only [hg] at hB
    split at hB
    · rename_i e; rw [e]; exact .inr ⟨b, old, hb, writes_lies h2, fun _ => h2, rfl⟩
    · exact .inr ⟨B, blk, hB, hl, id, rfl⟩
  · simp only [hg] at hB
    split at hB
    · rename_i e; rw [e]; exact ⟨_, hb⟩
    · exact ⟨_, hB⟩
  · simp only [hg] at hB
    split at hB
    · cases hB; cases h3
    · exact hn B _ _ hB

theorem mapB_ok {b : Option Blk} {es : List MapEntry} {clock : Nat} (h : mapB b = some (es, clock)) : b = some (.map es clock) := by
  unfold mapB at h
  split at h
  · cases h; rfl
  · cases h

theorem modify_entry {es : List MapEntry} {i : Nat} {e : MapEntry} {k x : Value} (h : es[i]? = some e) :
    ((es.map (renE ι)).toArray.modify i fun e => { e with key := k, val := ren ι x }) = ((es.set i { e with key := k, val := x }).map (renE ι)).toArray := by
  apply Array.ext'
  apply List.ext_getElem?
  intro j
  simp only [List.map_set]
  obtain ⟨hi, he⟩ := List.getElem?_eq_some_iff.1 h
  by_cases hj : i = j
  · subst hj
    simp [hi, he, renE]
  · simp [hj]

/-- **A MAP IS CHANGED.** -/
theorem mapSet_sound (ok : CxOk cx) (R : Rel ι D σ w) {t : TypeId} {m k x : Value} {σ' : Mem} (hx : vok ι D x) (h : mapSetA cx σ t m k x = .ok σ') :
    ∃ w', (Instr.mapUpdate t (ren ι m) (ren ι k) (ren ι x)).run cx.P w = .ok () w' ∧ Rel ι D σ' w' ∧ Go1 ι D σ w ι D σ' w' := by
  unfold mapSetA at h
  split at h
  · rename_i kt et hu
    have hu' := und_sound ok hu
    split at h
    · rename_i b
      split at h
      · rename_i es clock hm
        have hm := mapB_ok hm
        split at h
        · rename_i hsh
          obtain ⟨hk, hks⟩ := and_true hsh
          obtain ⟨k1, k2⟩ := vok_shut (ι := ι) (D := D) hk
          obtain ⟨hD, hobj, hent⟩ := R.live b _ hm
          have hlt : (ι b).blk < w.heap.size := (Array.getElem?_eq_some_iff.1 hobj).1
          have fin : ∀ (es' : List MapEntry) (clock' : Nat), (∀ e ∈ es', vok ι D e.key ∧ ren ι e.key = e.key ∧ vok ι D e.val) → σ' = { σ with h := σ.h.set b (some (.map es' clock')) } →
              Rel ι D σ' { w with heap := w.heap.setIfInBounds (ι b).blk (.map (es'.map (renE ι)).toArray clock') } ∧ Go1 ι D σ w ι D σ' { w with heap := w.heap.setIfInBounds (ι b).blk (.map (es'.map (renE ι)).toArray clock') } := by
            intro es' clock' he hσ
            subst hσ
            exact poke_sound R hm rfl rfl rfl rfl (fun j hj => Array.getElem?_setIfInBounds_ne (fun e => hj e.symm)) (by simp) rfl rfl rfl ⟨by simp [hlt], he⟩
          unfold mapSetR at h
          simp only [Instr.mapUpdate, Sem.run_bind, run_underlying hu', Result.andThen_ok, ren, k1, MapKept.run_getObj_map hobj]
          split at h
          · rename_i i v0 hf
            obtain ⟨f1, f2⟩ := findA_sound (ι := ι) (w := w) ok hf
            split at h
            · rename_i e hei
              split at h
              · rename_i hsb
                cases h
                have hmem := List.mem_of_getElem? hei
                have hil := (List.getElem?_eq_some_iff.1 hei).1
                refine ⟨_, ?_, fin _ clock (fun e' he' => ?_) rfl⟩
                · simp only [f1, f2, Result.andThen_ok, renR]
                  have hget : ((es.map (renE ι)).toArray)[i]? = some (renE ι e) := by simp [hei]
                  simp only [hget, Option.map_some, Option.getD_some, renE]
                  simp only [Instr.keyThatStays, hsb, if_true, Sem.run_pure, Result.andThen_ok, MapKept.run_setObj_map _ hobj, Sem.run_bind]
                  rw [modify_entry hei]
                · rcases List.mem_or_eq_of_mem_set he' with h1 | h1
                  · exact hent e' h1
                  · subst h1; exact ⟨k2, k1, hx⟩
              · cases h
            · cases h
          · rename_i hf
            obtain ⟨f1, f2⟩ := findA_sound (ι := ι) (w := w) ok hf
            cases h
            refine ⟨_, ?_, fin _ (clock + 1) (fun e' he' => ?_) rfl⟩
            · simp only [f1, f2, Result.andThen_ok, renR, Option.map_none]
              rw [MapKept.run_setObj_map _ hobj]
              simp [renE]
            · rcases List.mem_append.1 he' with h1 | h1
              · exact hent e' h1
              · simp only [List.mem_singleton] at h1
                subst h1; exact ⟨k2, k1, hx⟩
          · cases h
        · cases h
      · cases h
    · cases h
  · cases h

/-- A block that is no row, come in at once. -/
theorem alloc_block (R : Rel ι D σ w) (hm : σ.next + 1 ≤ most) {blk : Blk} {obj : Obj} (hc : isCells blk = false)
    (hb : BR (upd ι σ.next ⟨w.heap.size, 0, 0⟩) (addD D σ.next) blk ⟨w.heap.size, 0, 0⟩ (w.alloc obj)) :
    Rel (upd ι σ.next ⟨w.heap.size, 0, 0⟩) (addD D σ.next) { σ with h := σ.h.set σ.next (some blk), next := σ.next + 1 } (w.alloc obj) ∧
    Go1 ι D σ w (upd ι σ.next ⟨w.heap.size, 0, 0⟩) (addD D σ.next) { σ with h := σ.h.set σ.next (some blk), next := σ.next + 1 } (w.alloc obj) := by
  have hid : ¬ D σ.next := fun hD => Nat.lt_irrefl _ (R.next _ hD)
  have hx := upd_ext (ι := ι) (e := ⟨w.heap.size, 0, 0⟩) hid
  have hlt : σ.next + 1 < 2 ^ deep := by rw [deep_pow]; unfold most at hm; omega
  have R1 : Rel (upd ι σ.next ⟨w.heap.size, 0, 0⟩) (addD D σ.next) { σ with next := σ.next + 1 } (w.alloc obj) :=
    (R.skip hm).grow hx (fun B hB => by
      rcases hB with hB | hB
      · exact Nat.lt_succ_of_lt (R.next B hB)
      · rw [hB]; exact Nat.lt_succ_self _) (fun B b hB hl => alloc_old _ (BR_lt (R.live B b hB).2 hl))
  have R2 := R1.settle (id := σ.next) (b := blk) ⟨.inr rfl, fun hl B b' hB hl' he => by
      rw [upd_same, upd_other (fun e => by rw [e] at hB; exact hid (R.live _ _ hB).1)] at he
      have := BR_lt (R.live B b' hB).2 hl'
      simp only at he
      omega, fun c f s hcs => by rw [hcs] at hc; cases hc⟩ (by rw [upd_same]; exact hb)
  have hlv : ∀ B blk', (σ.h.set σ.next (some blk)).get B = some blk' → σ.next ≤ B ∨ ∃ b, σ.h.get B = some b := by
    intro B blk' hB
    rw [get_set R.full _ _ _ hlt] at hB
    split at hB
    · rename_i e; exact .inl (by omega)
    · exact .inr ⟨_, hB⟩
  refine ⟨R2, hx, fun B hB => ?_, Nat.le_succ _, by rw [alloc_size]; omega, fun b hb _ => alloc_old _ hb, fun B blk' hB hl => ?_, hlv, fun f hf hn => ⟨rfl, fun B c s hB => ?_⟩, rfl, rfl, rfl⟩
  · rcases hB with hB | hB
    · exact .inl hB
    · exact .inr (by rw [hB]; exact Nat.le_refl _)
  · simp only [get_set R.full _ _ _ hlt] at hB
    split at hB
    · rename_i he
      left
      rw [he, upd_same]
      exact Nat.le_refl _
    · rename_i he
      refine .inr ⟨B, blk', hB, hl, id, ?_⟩
      rw [upd_other he]
  · simp only [get_set R.full _ _ _ hlt] at hB
    split at hB
    · cases hB; cases hc
    · exact hn B c s hB

end
end
end Go.VI
