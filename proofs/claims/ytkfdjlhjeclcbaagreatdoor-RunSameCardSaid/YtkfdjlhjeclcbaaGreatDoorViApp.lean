/-
  VI: append.
-/
import Derived.Test.YtkfdjlhjeclcbaaGreatDoorViHeavy
import Derived.Laws.AppendOwn
namespace Go.VI
open Go
noncomputable section

section
variable {cx : Cx} {ι ι' : Emb} {D D' : Nat → Prop} {σ : Mem} {w w' : World}

/-! ### The machine's own run -/

theorem run_lenOf {P : Program} {x : Value} {n : Nat} (h : (∃ a c, x = .slice a n c) ∨ ∃ s, x = .string s ∧ s.size = n) : (Builtin.lenOf x).run P w = .ok n w := by
  rcases h with ⟨a, c, rfl⟩ | ⟨s, rfl, rfl⟩ <;> simp [Builtin.lenOf]

theorem bind_ok {P : Program} {α β : Type} {s : Sem α} {k : α → Sem β} {a : α} (h : s.run P w = .ok a w') : (s >>= k).run P w = (k a).run P w' := by
  rw [Sem.run_bind, h]; rfl

theorem run_append_in {P : Program} {t u ty e : TypeId} {d : TypeDesc} {i : TypeInfo} (ht : P.underlying t = some (.slice e)) (hu : P.underlying u = some d) (hd : notNumber (some d) = true) (hi : P.info? e = some i)
    {base : Option Addr} {sLen sCap n : Nat} {x : Value} {new : List Value} (hx : (∃ a c, x = .slice a n c) ∨ ∃ s, x = .string s ∧ s.size = n)
    (hf : (Builtin.firstCells i.size n x).run P w = .ok new.toArray w) (hroom : sLen + n ≤ sCap)
    (hst : ∀ a, base = some a → (storeCells (a.add (sLen * i.size)) new 0).run P w = .ok () w') (hn : base = none → w' = w) :
    (Builtin.append_ #[t, u] ty #[.slice base sLen sCap, x]).run P w = .ok (.slice base (sLen + n) sCap) w' := by
  have hl := run_lenOf (P := P) (w := w) hx
  have hsz : (sizeOf e).run P w = .ok i.size w := by simp [sizeOf, typeInfo, hi]
  unfold Builtin.append_
  refine (bind_ok (run_underlying ht w)).trans ?_
  refine (bind_ok hsz).trans ?_
  refine (bind_ok (run_underlying hu w)).trans ?_
  refine (bind_ok (a := false) (w' := w) (by cases d <;> first | rfl | exact Bool.noConfusion hd)).trans ?_
  cases base with
  | none =>
    obtain rfl := hn rfl
    simp [hl, hroom, hf]
  | some a => simp [hl, hroom, hf, hst a rfl]

theorem run_append_new {P : Program} {t u ty e : TypeId} {d : TypeDesc} {i : TypeInfo} {z : Value} (ht : P.underlying t = some (.slice e)) (hu : P.underlying u = some d) (hd : notNumber (some d) = true) (hi : P.info? e = some i)
    (hz : i.zero = some z) {base : Option Addr} {sLen sCap n : Nat} {x : Value} {old new : List Value} (hx : (∃ a c, x = .slice a n c) ∨ ∃ s, x = .string s ∧ s.size = n)
    (ho : (Builtin.firstCells i.size sLen (.slice base sLen sCap)).run P w.drew = .ok old.toArray w.drew)
    (hf : (Builtin.firstCells i.size n x).run P w.drew = .ok new.toArray w.drew) (hroom : ¬ (sLen + n ≤ sCap)) (h63 : sLen + n ≤ 1000000) (hb : i.bytes ≤ 1000000) :
    (Builtin.append_ #[t, u] ty #[.slice base sLen sCap, x]).run P w =
      .ok (.slice (some ⟨w.heap.size, 0, none⟩) (sLen + n) (grownCap w (sLen + n) sCap e))
        (w.drew.alloc (.cells ((old ++ new).toArray ++ Builtin.zeroCells z.cells (grownCap w (sLen + n) sCap e - (sLen + n))) e)) := by
  have hl := run_lenOf (P := P) (w := w) hx
  have hsz : (sizeOf e).run P w = .ok i.size w := by simp [sizeOf, typeInfo, hi]
  have h63' : ¬ (9223372036854775807 < ((sLen : Int) + (n : Int))) := by omega
  have hfit := growslice_fits (need := sLen + n) (old := sCap) (bytes := i.bytes) (by omega) (by
    have h1 : (sLen + n) * i.bytes ≤ 1000000 * 1000000 := Nat.mul_le_mul h63 hb
    omega)
  have h48' : ¬ (281474976710656 < Builtin.nextslicecap (sLen + n) sCap * i.bytes) := by omega
  unfold Builtin.append_
  refine (bind_ok (run_underlying ht w)).trans ?_
  refine (bind_ok hsz).trans ?_
  refine (bind_ok (run_underlying hu w)).trans ?_
  refine (bind_ok (a := false) (w' := w) (by cases d <;> first | rfl | exact Bool.noConfusion hd)).trans ?_
  simp [typeInfo, zeroValue, hi, hz, hl, hroom, h63', h48', Question.forced, ho, hf, newRow, grownCap]
  congr 2
  apply Array.ext'
  simp [List.append_assoc]

/-! ### Memory -/

/-- A row that nothing is written over stays what it is. -/
theorem others_BR (R : Rel ι D σ w) {b : Nat} {cs : List Value} {fam start : Nat} (hb : σ.h.get b = some (.cells cs fam start)) {c : Array Value} {t : TypeId} (hc : w.heap[(ι b).blk]? = some (.cells c t (0, 0)))
    {p lo : Nat} {xs : List Value} (hfit : p + xs.length ≤ c.size) (hlo : lo + (ι b).shift = p + start) {B : Nat} {blk : Blk} (ho : σ.h.get B = some blk) (hov : B ∈ family σ fam → overlaps (some blk) lo xs.length = false) :
    BR ι D blk (ι B) (w.setRow (ι b).blk (c.toList.take p ++ xs ++ c.toList.drop (p + xs.length)).toArray) := by
  have hw := fun j => written_get c p xs j hfit
  have hself := setRow_heap w (ι b).blk c (c.toList.take p ++ xs ++ c.toList.drop (p + xs.length)).toArray t (0, 0) hc
  generalize hrow : (c.toList.take p ++ xs ++ c.toList.drop (p + xs.length)).toArray = row at *
  have hsz : row.size = c.size := by
    rw [← hrow]
    simp
    omega
  obtain ⟨hD, hbr⟩ := R.live B blk ho
  by_cases hl : lies blk = true
  · by_cases he : (ι B).blk = (ι b).blk
    · have hk : kin blk (.cells cs fam start) (ι B) (ι b) := by
        rcases R.inj B b blk _ ho hb hl rfl he with h1 | h1
        · subst h1
          rw [hb] at ho
          cases ho
          exact ⟨rfl, rfl⟩
        · exact h1
      cases blk with
      | cells cs' f' s' =>
        obtain ⟨k1, k2⟩ := hk
        subst k1
        obtain ⟨c', t', g1, g2, g3, g4⟩ := hbr
        rw [he, hc] at g1
        cases g1
        refine ⟨row, t, by rw [he]; exact hself, g2, by omega, fun i v hi => ?_⟩
        have hi' := (List.getElem?_eq_some_iff.1 hi).1
        have hov := hov (R.fam B _ _ _ ho).2
        have hov' : ¬ (s' + 1 ≤ lo + xs.length ∧ lo + 1 ≤ s' + cs'.length) := by
          intro ⟨q1, q2⟩
          rw [overlaps, Nat.ble_eq_true_of_le q1, Nat.ble_eq_true_of_le q2] at hov
          cases hov
        rw [hw, if_neg (by omega)]
        exact g4 i v hi
      | _ => exact hk.elim
    · exact BR_mono (Ext.refl _ _) (fun _ => setRow_other w _ _ _ he) hbr
  · exact BR_mono (Ext.refl _ _) (fun h => absurd h hl) hbr

/-- **A NEW ROW OF A FAMILY COMES IN.** -/
theorem row_sound (R : Rel ι D σ w) (hm : σ.next + 4 ≤ most) {h1 : Tr Blk} (hfull : Full deep h1) (hsub : ∀ B b, h1.get B = some b → σ.h.get B = some b) {cs : List Value} {f s : Nat} {L : List Nat} {e : Em}
    (hf : (f = σ.next ∧ L = []) ∨ (∃ b cs' s', σ.h.get b = some (.cells cs' f s') ∧ L = family σ f))
    (hw : ∀ B b, h1.get B = some b → BR ι D b (ι B) w') (hsz : w.heap.size ≤ w'.heap.size) (ht : w'.tape = w.tape) (hos : w'.os = w.os) (hou : w'.output = w.output)
    (hnew : BR ι D (.cells cs f s) e w') (hlone : ∀ B b, h1.get B = some b → lies b = true → (ι B).blk = e.blk → kin b (.cells cs f s) (ι B) e ∧ kin (.cells cs f s) b e (ι B))
    (hframe : ∀ k, k < w.heap.size → (∀ B blk, σ.h.get B = some blk → writes blk = true → (ι B).blk ≠ k) → w'.heap[k]? = w.heap[k]?)
    (hrange : w.heap.size ≤ e.blk ∨ ∃ B0 blk0, σ.h.get B0 = some blk0 ∧ lies blk0 = true ∧ writes blk0 = true ∧ (ι B0).blk = e.blk) :
    Rel (upd ι σ.next e) (addD D σ.next) { h := h1.set σ.next (some (.cells cs f s)), next := σ.next + 1, fams := σ.fams.set f (some (σ.next :: L)) } w' ∧
    Go1 ι D σ w (upd ι σ.next e) (addD D σ.next) { h := h1.set σ.next (some (.cells cs f s)), next := σ.next + 1, fams := σ.fams.set f (some (σ.next :: L)) } w' := by
  have hid : ¬ D σ.next := fun hD => Nat.lt_irrefl _ (R.next _ hD)
  have hx := upd_ext (ι := ι) (e := e) hid
  have hlt : ∀ B, B ≤ σ.next → B + 1 < 2 ^ deep := fun B h => by rw [deep_pow]; unfold most at hm; omega
  have hfl : f ≤ σ.next := by
    rcases hf with ⟨h, _⟩ | ⟨b, cs', s', h, _⟩
    · omega
    · have := (R.fam b _ _ _ h).1; omega
  have hg : ∀ B, (h1.set σ.next (some (.cells cs f s))).get B = if B = σ.next then some (.cells cs f s) else h1.get B := fun B => get_set hfull _ _ _ (hlt _ (Nat.le_refl _))
  have hgf : ∀ g, (σ.fams.set f (some (σ.next :: L))).get g = if g = f then some (σ.next :: L) else σ.fams.get g := fun g => get_set R.fullF _ _ _ (hlt _ hfl)
  have old : ∀ B b, h1.get B = some b → D B ∧ B ≠ σ.next ∧ upd ι σ.next e B = ι B := fun B b hB => by
    have hD := (R.live B b (hsub B b hB)).1
    have hne : B ≠ σ.next := fun h => hid (h ▸ hD)
    exact ⟨hD, hne, upd_other hne⟩
  refine ⟨⟨full_set hfull _ _, full_set R.fullF _ _, R.glob.ext hx, Nat.le_succ_of_le R.low, fun B hB => ?_, fun B b hB => ?_, fun B B' b b' hB hB' hl hl' he => ?_, fun B c' f' s' hB => ?_, fun B c' f' s' hB hn => ?_, fun g hgl => ?_, by unfold most at *; show σ.next + 1 ≤ _; omega⟩,
    hx, fun B hB => ?_, Nat.le_succ _, hsz, hframe, fun B blk hB hl => ?_, fun B blk hB => ?_, fun g hgl hn => ?_, ht, hos, hou⟩
  · rcases hB with hB | hB
    · exact Nat.lt_succ_of_lt (R.next B hB)
    · rw [hB]; exact Nat.lt_succ_self _
  · simp only [hg] at hB
    split at hB
    · rename_i h
      cases hB
      rw [h, upd_same]
      exact ⟨.inr rfl, BR_mono hx (fun _ => rfl) hnew⟩
    · rename_i h
      obtain ⟨o1, o2, o3⟩ := old B b hB
      rw [o3]
      exact ⟨.inl o1, BR_mono hx (fun _ => rfl) (hw B b hB)⟩
  · simp only [hg] at hB hB'
    split at hB <;> split at hB'
    · rename_i e1 e2; exact .inl (e1.trans e2.symm)
    · rename_i e1 e2
      cases hB
      obtain ⟨o1, o2, o3⟩ := old B' b' hB'
      rw [e1, upd_same, o3] at he
      rw [e1, upd_same, o3]
      exact .inr (hlone B' b' hB' hl' he.symm).2
    · rename_i e1 e2
      cases hB'
      obtain ⟨o1, o2, o3⟩ := old B b hB
      rw [e2, upd_same, o3] at he
      rw [e2, upd_same, o3]
      exact .inr (hlone B b hB hl he).1
    · obtain ⟨o1, o2, o3⟩ := old B b hB
      obtain ⟨p1, p2, p3⟩ := old B' b' hB'
      rw [o3, p3] at he
      rw [o3, p3]
      exact R.inj B B' b b' (hsub B b hB) (hsub B' b' hB') hl hl' he
  · have fm : ∀ g, family { h := h1.set σ.next (some (.cells cs f s)), next := σ.next + 1, fams := σ.fams.set f (some (σ.next :: L)) } g = if g = f then σ.next :: L else family σ g := by
      intro g
      simp only [family, hgf]
      split <;> rfl
    simp only [hg] at hB
    rw [fm]
    split at hB
    · rename_i h
      cases hB
      rw [if_pos rfl, h]
      exact ⟨Nat.lt_succ_of_le hfl, by simp⟩
    · rename_i h
      obtain ⟨r1, r2⟩ := R.fam B _ _ _ (hsub B _ hB)
      refine ⟨Nat.lt_succ_of_lt r1, ?_⟩
      split
      · rename_i hff
        subst hff
        rcases hf with ⟨h, _⟩ | ⟨b, cs', s', h, rfl⟩
        · omega
        · exact List.mem_cons_of_mem _ r2
      · exact r2
  · simp only [hg] at hB
    simp only [hgf] at hn
    split at hn
    · cases hn
    · rename_i hff
      split at hB
      · cases hB; exact absurd rfl hff
      · obtain ⟨o1, o2, o3⟩ := old B _ hB
        rw [o3]
        exact R.exact B _ _ _ (hsub B _ hB) hn
  · simp only [hgf]
    rw [if_neg (by simp only at hgl; omega)]
    exact R.famN g (by simp only at hgl; omega)
  · rcases hB with hB | hB
    · exact .inl hB
    · exact .inr (by rw [hB]; exact Nat.le_refl _)
  · simp only [hg] at hB
    split at hB
    · rename_i h
      rw [h, upd_same]
      rcases hrange with hr | ⟨B0, blk0, r1, r2, r3, r4⟩
      · exact .inl hr
      · exact .inr ⟨B0, blk0, r1, r2, fun _ => r3, r4⟩
    · obtain ⟨o1, o2, o3⟩ := old B _ hB
      rw [o3]
      exact .inr ⟨B, blk, hsub B _ hB, hl, id, rfl⟩
  · simp only [hg] at hB
    split at hB
    · rename_i h; exact .inl (by omega)
    · exact .inr ⟨_, hsub B _ hB⟩
  · have hgf' : g ≠ f := by
      rintro rfl
      rcases hf with ⟨h, _⟩ | ⟨b, cs', s', h, _⟩
      · omega
      · exact hn b cs' s' h
    refine ⟨by rw [hgf, if_neg hgf'], fun B c' s' hB => ?_⟩
    simp only [hg] at hB
    split at hB
    · cases hB; exact hgf' rfl
    · exact hn B _ _ (hsub B _ hB)

/-- What is handed to append, as the machine reads it. -/
theorem src_sound (R : Rel ι D σ w) {n : Nat} {x : Value} {new : List Value} (hx : vok ι D x) (h : srcCells σ n x = some new) :
    (∀ w0 : World, w0.heap = w.heap → (Builtin.firstCells n (lenV x) (ren ι x)).run cx.P w0 = .ok (new.map (ren ι)).toArray w0) ∧ (∀ v ∈ new, vok ι D v) ∧
    ((∃ a c, ren ι x = .slice a (lenV x) c) ∨ ∃ s, ren ι x = .string s ∧ s.size = lenV x) := by
  unfold srcCells at h
  split at h
  · rename_i m c
    cases h
    rw [vok] at hx
    obtain ⟨rfl, rfl⟩ := hx
    exact ⟨fun w0 _ => by simp [ren, Builtin.firstCells], by simp, .inl ⟨none, 0, by simp [ren, lenV]⟩⟩
  · rename_i b off len esz
    split at h
    · rename_i he
      have he := beq_eq he
      subst he
      rw [vok] at hx
      refine ⟨?_, ?_, .inl ⟨_, _, by rw [ren]; rfl⟩⟩
      all_goals
        cases hc : σ.cells? b with
        | none =>
          rw [hc] at h
          simp only [srcB] at h
          split at h
          · cases h
            intros
            first
              | simp [ren, renA, lenV, Builtin.firstCells, loadCells, loadCellsFrom]; done
              | (rename_i hv; cases hv)
          · cases h
        | some cs =>
          rw [hc] at h
          simp only [srcB] at h
          obtain ⟨h1, rfl⟩ := cut_some h
          obtain ⟨_, c, t, fz, hh, hcr⟩ := cells_sound R hc
          first
            | exact (loadCells_sound (cx := cx) hh hcr h1).2
            | (intro w0 hw0
               have := (loadCells_sound (cx := cx) (w := w0) (by rw [hw0]; exact hh) hcr h1).1
               simpa [ren, renA, lenV, Builtin.firstCells] using this)
    · cases h
  · rename_i s
    split at h
    · cases h
      refine ⟨fun w0 _ => ?_, fun v hv => ?_, .inr ⟨s, by rw [ren], by simp [lenV]⟩⟩
      · have hx : s.extract 0 s.data.toList.length = s := by
          have : s.data.toList.length = s.size := by simp
          rw [this]
          exact ByteArray.extract_zero_size
        simp only [ren, lenV, Builtin.firstCells, hx, Sem.run_pure]
        congr 1
        apply Array.ext'
        simp [ren]
      · obtain ⟨y, _, rfl⟩ := List.mem_map.1 hv
        simp [vok]
    · cases h
  · cases h

theorem appNew_sound (R : Rel ι D σ w) (hm : σ.next + 4 ≤ most) {n esz : Nat} {new : List Value} (h0 : 0 < esz) (hn : ∀ v ∈ new, vok ι D v) (hl : new.length = n * esz) {z : Array Value} (hz : z.size = esz) {cap : Nat} (hc : n ≤ cap) {e : TypeId} :
    ∃ ι' D', Rel ι' D' { h := σ.h.set σ.next (some (.cells new σ.next 0)), next := σ.next + 1, fams := σ.fams.set σ.next (some [σ.next]) } (w.drew.alloc (.cells ((new.map (ren ι)).toArray ++ Builtin.zeroCells z (cap - n)) e)) ∧
      Go1 ι D σ w ι' D' { h := σ.h.set σ.next (some (.cells new σ.next 0)), next := σ.next + 1, fams := σ.fams.set σ.next (some [σ.next]) } (w.drew.alloc (.cells ((new.map (ren ι)).toArray ++ Builtin.zeroCells z (cap - n)) e)) ∧
      ren ι' (sliceTo n esz σ.next) = .slice (some ⟨w.heap.size, 0, none⟩) n cap ∧ vok ι' D' (sliceTo n esz σ.next) := by
  have hid : ¬ D σ.next := fun hD => Nat.lt_irrefl _ (R.next _ hD)
  have hrow : ((new.map (ren ι)).toArray ++ Builtin.zeroCells z (cap - n)).size = cap * esz := by
    simp only [Array.size_append, List.size_toArray, List.length_map, hl, size_zeroCells, hz, ← Nat.add_mul]
    congr 1
    omega
  have hmk := mk_slice (e := ⟨w.heap.size, 0, cap * esz⟩) (len := n) h0 (by simp only [Nat.zero_add]; exact Nat.mul_le_mul_right _ hc)
  have hcap : (cap * esz - 0) / esz = cap := by rw [Nat.sub_zero, Nat.mul_div_cancel _ h0]
  simp only [hcap] at hmk
  obtain ⟨m1, m2⟩ := hmk σ.next (upd ι σ.next ⟨w.heap.size, 0, cap * esz⟩) (addD D σ.next) (upd_same _ _)
  have key := row_sound (ι := ι) (D := D) (σ := σ) (w := w) (w' := w.drew.alloc (.cells ((new.map (ren ι)).toArray ++ Builtin.zeroCells z (cap - n)) e)) (h1 := σ.h) (cs := new) (f := σ.next) (s := 0) (L := []) (e := ⟨w.heap.size, 0, cap * esz⟩)
    R hm R.full (fun _ _ h => h) (.inl ⟨rfl, rfl⟩)
    (fun B b hB => BR_mono (Ext.refl _ _) (fun hl => (alloc_old (w := w.drew) _ (BR_lt (R.live B b hB).2 hl)).trans rfl) (R.live B b hB).2)
    (by rw [alloc_size]; exact Nat.le_succ _) rfl rfl rfl
    ⟨_, e, alloc_new (w := w.drew) _, by simp only [Nat.zero_add, hl]; exact Nat.mul_le_mul_right _ hc, by rw [hrow]; exact Nat.le_refl _, fun i v hi => by
      have hil := (List.getElem?_eq_some_iff.1 hi).1
      rw [Nat.zero_add, Array.getElem?_append_left (by simpa using hil)]
      simp only [List.getElem?_toArray, List.getElem?_map, hi, Option.map_some]
      exact ⟨trivial, hn v (List.mem_of_getElem? hi)⟩⟩
    (fun B b hB hl he => by
      have := BR_lt (R.live B b hB).2 hl
      simp only at he
      omega)
    (fun k hk _ => (alloc_old (w := w.drew) _ hk).trans rfl) (.inl (Nat.le_refl _))
  exact ⟨_, _, key.1, key.2, m1, m2 (.inr rfl)⟩

theorem family_of {B : Nat} {cs : List Value} {f s : Nat} (R : Rel ι D σ w) (h : σ.h.get B = some (.cells cs f s)) : B ∈ family σ f := (R.fam B cs f s h).2

/-- **APPENDING BEHIND A ROW.** -/
theorem appCut_sound (R : Rel ι D σ w) (hm : σ.next + 4 ≤ most) {t u ty e : TypeId} {d : TypeDesc} {i : TypeInfo} {z : Value} (ht : cx.P.underlying t = some (.slice e)) (hu : cx.P.underlying u = some d) (hd : notNumber (some d) = true)
    (hi : cx.P.info? e = some i) (hz : i.zero = some z) (hzs : z.cells.size = i.size) (h0 : 0 < i.size) (hby : i.bytes ≤ 1000000)
    {b off len fam start n : Nat} {cs new : List Value} {x v : Value} {σ' : Mem} (hb : σ.h.get b = some (.cells cs fam start)) (hs : vok ι D (.slice (some ⟨b, off, none⟩) len i.size)) (hx : vok ι D x)
    (hn : lenV x = n) (hlong : len + n ≤ 1000000) (hsrc : srcCells σ i.size x = some new) (h1 : areCells new = true) (hnl : new.length = n * i.size)
    (h : appCut σ off len n i.size fam start new (cut cs off (len * i.size)) = .ok (v, σ')) :
    ∃ ι' D' w', (Builtin.append_ #[t, u] ty #[ren ι (.slice (some ⟨b, off, none⟩) len i.size), ren ι x]).run cx.P w = .ok (ren ι' v) w' ∧ Rel ι' D' σ' w' ∧ Go1 ι D σ w ι' D' σ' w' ∧ vok ι' D' v := by
  obtain ⟨f1, f2, f3⟩ := src_sound (cx := cx) R hx hsrc
  rw [hn] at f1 f3
  unfold appCut at h
  cases hcut : cut cs off (len * i.size) with
  | none => rw [hcut] at h; cases h
  | some old =>
    rw [hcut] at h
    simp only at h
    cases h
    obtain ⟨c1, rfl⟩ := cut_some hcut
    obtain ⟨hD, c, ty', hc, hcr⟩ := R.live b _ hb
    have hcr' := hcr
    obtain ⟨q1, q2, q3⟩ := hcr
    rw [vok] at hs
    obtain ⟨_, _, _, hlim⟩ := hs
    simp only at hlim
    have hold := loadCells_sound (cx := cx) hc hcr' c1
    have hol : ((cs.drop off).take (len * i.size)).length = len * i.size := by simp; omega
    have hkf := killAll_full (me := σ.next) (lo := start + off + len * i.size) (n := new.length) (family σ fam) R.full
    have hlt : ∀ B, B < σ.next → B + 1 < 2 ^ deep := fun B h => by have := R.bound; rw [deep_pow]; unfold most at this; omega
    have hsub : ∀ B blk, (killAll σ.next (start + off + len * i.size) new.length (family σ fam) σ.h).get B = some blk → σ.h.get B = some blk ∧ (B ∈ family σ fam → overlaps (some blk) (start + off + len * i.size) new.length = false) := by
      intro B blk hB
      have hB' := killAll_sub _ hB
      have hBD := (R.live B blk hB').1
      obtain ⟨k1, k2⟩ := killAll_get _ R.full hB (hlt B (R.next B hBD))
      exact ⟨k1, fun hm => k2 hm fun he => by have := R.next B hBD; omega⟩
    have hcapdef : ren ι (.slice (some ⟨b, off, none⟩) len i.size) = .slice (some ⟨(ι b).blk, (ι b).shift + off, none⟩) len (((ι b).limit - ((ι b).shift + off)) / i.size) := by rw [ren]; rfl
    rw [hcapdef]
    generalize hcap : ((ι b).limit - ((ι b).shift + off)) / i.size = cap
    by_cases hroom : len + n ≤ cap
    · -- in place
      have hfit : (len + n) * i.size ≤ (ι b).limit - ((ι b).shift + off) := by
        have h1 : (len + n) * i.size ≤ cap * i.size := Nat.mul_le_mul_right _ hroom
        have h2 : cap * i.size ≤ (ι b).limit - ((ι b).shift + off) := by rw [← hcap]; exact Nat.div_mul_le_self _ _
        omega
      have hsum : (len + n) * i.size = len * i.size + new.length := by rw [hnl, Nat.add_mul]
      have hst := run_storeCells_at cx.P (ι b).blk ((ι b).shift + off + len * i.size) ty' (new.map (ren ι)) 0 c w hc (by simp; omega) (fun v hv => by
        obtain ⟨u, hu, rfl⟩ := List.mem_map.1 hv
        exact areCells_one h1 u hu)
      simp only [Nat.add_zero] at hst
      have hrun := run_append_in (P := cx.P) (w := w) (ty := ty) (base := some ⟨(ι b).blk, (ι b).shift + off, none⟩) (sLen := len) (sCap := cap) ht hu hd hi (x := ren ι x) (n := n) f3 (f1 w rfl) hroom
        (fun a ha => by cases ha; rw [add_lit]; exact hst) (fun h => by cases h)
      have hmk := mk_slice (e := ⟨(ι b).blk, (ι b).shift + off, (ι b).limit⟩) (len := len + n) h0 (by simp only; omega)
      simp only [hcap] at hmk
      obtain ⟨m1, m2⟩ := hmk σ.next (upd ι σ.next ⟨(ι b).blk, (ι b).shift + off, (ι b).limit⟩) (addD D σ.next) (upd_same _ _)
      have hlen : (new.map (ren ι)).length = new.length := by simp
      have hw := fun j => written_get c ((ι b).shift + off + len * i.size) (new.map (ren ι)) j (by rw [hlen]; omega)
      have key := row_sound (ι := ι) (D := D) (σ := σ) (w := w)
        (w' := w.setRow (ι b).blk (c.toList.take ((ι b).shift + off + len * i.size) ++ new.map (ren ι) ++ c.toList.drop ((ι b).shift + off + len * i.size + (new.map (ren ι)).length)).toArray)
        (cs := (cs.drop off).take (len * i.size) ++ new) (f := fam) (s := start + off) (L := family σ fam) (e := ⟨(ι b).blk, (ι b).shift + off, (ι b).limit⟩)
        R hm hkf (fun B blk hB => (hsub B blk hB).1) (.inr ⟨b, cs, start, hb, rfl⟩)
        (fun B blk hB => others_BR R hb hc (p := (ι b).shift + off + len * i.size) (lo := start + off + len * i.size) (by rw [hlen]; omega) (by omega) (hsub B blk hB).1 (by rw [hlen]; exact (hsub B blk hB).2))
        (by simp) rfl rfl rfl
        ⟨_, ty', setRow_heap w _ _ _ _ _ hc, by simp only [List.length_append, hol]; omega, by simp; omega, fun j v hj => by
          rw [hw, hlen]
          have hjl := (List.getElem?_eq_some_iff.1 hj).1
          rw [List.length_append, hol] at hjl
          by_cases hjo : j < len * i.size
          · rw [List.getElem?_append_left (by omega), List.getElem?_take, if_pos hjo, List.getElem?_drop] at hj
            simp only
            rw [if_neg (by omega), Nat.add_assoc]
            exact q3 _ _ hj
          · rw [List.getElem?_append_right (by omega), hol] at hj
            simp only
            rw [if_pos (by omega), show (ι b).shift + off + j - ((ι b).shift + off + len * i.size) = j - len * i.size by omega, List.getElem?_map, hj]
            exact ⟨rfl, f2 v (List.mem_of_getElem? hj)⟩⟩
        (fun B blk hB hl he => by
          have hk : kin blk (.cells cs fam start) (ι B) (ι b) := by
            rcases R.inj B b blk _ (hsub B blk hB).1 hb hl rfl he with h1 | h1
            · subst h1
              have := (hsub B blk hB).1
              rw [hb] at this
              cases this
              exact ⟨rfl, rfl⟩
            · exact h1
          cases blk with
          | cells cs' f' s' =>
            obtain ⟨k1, k2⟩ := hk
            subst k1
            refine ⟨⟨rfl, ?_⟩, ⟨rfl, ?_⟩⟩ <;> simp only <;> omega
          | _ => exact hk.elim)
        (fun k hk hn => setRow_other w _ _ _ fun he => hn b _ hb rfl he.symm)
        (.inr ⟨b, _, hb, rfl, rfl, rfl⟩)
      exact ⟨_, _, _, by rw [m1]; exact hrun, key.1, key.2, m2 (.inr rfl)⟩
    · -- a new row
      have hge := grownCap_ge w (len + n) cap e
      have hrun := run_append_new (P := cx.P) (w := w) (ty := ty) (base := some ⟨(ι b).blk, (ι b).shift + off, none⟩) (sLen := len) (sCap := cap) ht hu hd hi hz (x := ren ι x) (n := n)
        (old := ((cs.drop off).take (len * i.size)).map (ren ι)) (new := new.map (ren ι)) f3
        (by simp only [Builtin.firstCells]; exact (loadCells_sound (cx := cx) (w := w.drew) (e := ι b) hc hcr' c1).1) (f1 _ rfl) hroom hlong hby
      have hrow : ((((cs.drop off).take (len * i.size)).map (ren ι) ++ new.map (ren ι)).toArray ++ Builtin.zeroCells z.cells (grownCap w (len + n) cap e - (len + n))).size = grownCap w (len + n) cap e * i.size := by
        simp only [Array.size_append, List.size_toArray, List.length_append, List.length_map, hol, hnl, size_zeroCells, hzs, ← Nat.add_mul]
        congr 1
        omega
      have hsum : (len + n) * i.size = len * i.size + new.length := by rw [hnl, Nat.add_mul]
      have hge' : (len + n) * i.size ≤ grownCap w (len + n) cap e * i.size := Nat.mul_le_mul_right _ hge
      have hmk := mk_slice (e := ⟨w.heap.size, 0, grownCap w (len + n) cap e * i.size⟩) (len := len + n) h0 (by simp only [Nat.zero_add]; exact hge')
      have hcc : (grownCap w (len + n) cap e * i.size - 0) / i.size = grownCap w (len + n) cap e := by rw [Nat.sub_zero, Nat.mul_div_cancel _ h0]
      simp only [hcc] at hmk
      obtain ⟨m1, m2⟩ := hmk σ.next (upd ι σ.next ⟨w.heap.size, 0, grownCap w (len + n) cap e * i.size⟩) (addD D σ.next) (upd_same _ _)
      have key := row_sound (ι := ι) (D := D) (σ := σ) (w := w)
        (w' := w.drew.alloc (.cells ((((cs.drop off).take (len * i.size)).map (ren ι) ++ new.map (ren ι)).toArray ++ Builtin.zeroCells z.cells (grownCap w (len + n) cap e - (len + n))) e))
        (cs := (cs.drop off).take (len * i.size) ++ new) (f := fam) (s := start + off) (L := family σ fam) (e := ⟨w.heap.size, 0, grownCap w (len + n) cap e * i.size⟩)
        R hm hkf (fun B blk hB => (hsub B blk hB).1) (.inr ⟨b, cs, start, hb, rfl⟩)
        (fun B blk hB => BR_mono (Ext.refl _ _) (fun hl => (alloc_old (w := w.drew) _ (BR_lt (R.live B blk (hsub B blk hB).1).2 hl)).trans rfl) (R.live B blk (hsub B blk hB).1).2)
        (by rw [alloc_size]; exact Nat.le_succ _) rfl rfl rfl
        ⟨_, e, alloc_new (w := w.drew) _, by simp only [List.length_append, hol]; omega, by rw [hrow]; exact Nat.le_refl _, fun j v hj => by
          have hjl := (List.getElem?_eq_some_iff.1 hj).1
          simp only [Nat.zero_add]
          rw [Array.getElem?_append_left (by simp only [List.length_append] at hjl; simp at hjl ⊢; omega), ← List.map_append]
          simp only [List.getElem?_toArray, List.getElem?_map, hj, Option.map_some]
          refine ⟨trivial, ?_⟩
          rcases List.mem_append.1 (List.mem_of_getElem? hj) with hv | hv
          · exact hold.2 v hv
          · exact f2 v hv⟩
        (fun B blk hB hl he => by
          have := BR_lt (R.live B blk (hsub B blk hB).1).2 hl
          simp only at he
          omega)
        (fun k hk _ => (alloc_old (w := w.drew) _ hk).trans rfl) (.inl (Nat.le_refl _))
      exact ⟨_, _, _, by rw [m1]; exact hrun, key.1, key.2, m2 (.inr rfl)⟩

theorem src_length {n : Nat} {x : Value} {new : List Value} (hx : vok ι D x) (h : srcCells σ n x = some new) : new.length = lenV x * n := by
  unfold srcCells at h
  split at h
  · cases h
    rw [vok] at hx
    obtain ⟨rfl, rfl⟩ := hx
    simp [lenV]
  · rename_i b off len esz
    split at h
    · cases hc : σ.cells? b with
      | none =>
        rw [hc] at h
        simp only [srcB] at h
        split at h
        · cases h; simp [lenV]
        · cases h
      | some cs =>
        rw [hc] at h
        simp only [srcB] at h
        obtain ⟨h1, rfl⟩ := cut_some h
        simp [lenV]
        omega
    · cases h
  · split at h
    · cases h; simp [lenV]
    · cases h
  · cases h

/-- **APPEND.** -/
theorem append_sound (ok : CxOk cx) (R : Rel ι D σ w) (hm : σ.next + 4 ≤ most) {t u ty : TypeId} {s x v : Value} {σ' : Mem} (hs : vok ι D s) (hx : vok ι D x) (h : appendA cx σ t u s x = .ok (v, σ')) :
    ∃ ι' D' w', (Builtin.append_ #[t, u] ty #[ren ι s, ren ι x]).run cx.P w = .ok (ren ι' v) w' ∧ Rel ι' D' σ' w' ∧ Go1 ι D σ w ι' D' σ' w' ∧ vok ι' D' v := by
  unfold appendA at h
  split at h
  · rename_i e ht
    have ht' := und_sound ok ht
    split at h
    · rename_i hnum
      cases hu : cx.und u with
      | none => rw [hu] at hnum; cases hnum
      | some d =>
        rw [hu] at hnum
        have hu' := und_sound ok hu
        cases hi : cx.info e with
        | none => rw [hi] at h; cases h
        | some i =>
          rw [hi] at h
          have hi' := ok.info e i hi
          simp only [appI] at h
          cases hz : zeroI i with
          | none => rw [hz] at h; cases h
          | some z =>
            rw [hz] at h
            simp only at h
            obtain ⟨hz', _, _⟩ := zeroI_ok (ι := ι) (D := D) hz
            split at h
            · rename_i hb
              obtain ⟨b1, b4⟩ := and_true hb
              obtain ⟨b1, b3⟩ := and_true b1
              obtain ⟨b1, b2⟩ := and_true b1
              have b1 := beq_eq b1; have b2 := ble_le b2; have b3 := ble_le b3
              cases hsrc : srcCells σ i.size x with
              | none => rw [hsrc] at h; cases h
              | some new =>
                rw [hsrc] at h
                simp only at h
                obtain ⟨f1, f2, f3⟩ := src_sound (cx := cx) R hx hsrc
                have hnl := src_length hx hsrc
                split at h
                · rename_i hl0
                  cases h
                  rw [hl0] at f1 f3 hnl
                  obtain rfl : new = [] := List.eq_nil_of_length_eq_zero (by simpa using hnl)
                  refine ⟨ι, D, w, ?_, R, Go1.refl _ _ _ _, hs⟩
                  unfold sliceOk at b4
                  split at b4
                  · rename_i c
                    rw [vok] at hs
                    obtain ⟨_, rfl⟩ := hs
                    have hr : ren ι (.slice none 0 0) = .slice none 0 0 := by simp [ren]
                    rw [hr]
                    exact run_append_in (P := cx.P) (w := w) (w' := w) ht' hu' hnum hi' (new := []) f3 (f1 w rfl) (Nat.le_refl _) (fun a ha => by cases ha) (fun _ => rfl)
                  · rename_i a len esz
                    rw [vok] at hs
                    obtain ⟨_, h2, h3, h4⟩ := hs
                    rw [ren]
                    refine run_append_in (P := cx.P) (w := w) (w' := w) ht' hu' hnum hi' (new := []) f3 (f1 w rfl) ?_ (fun a ha => by simp [storeCells]) (fun h => by cases h)
                    rw [Nat.add_zero]
                    exact (cap_div (l := 0) h3 (by simpa [renA] using h4) (Nat.zero_le _)).1
                  · cases b4
                · rename_i n hl
                  split at h
                  · rename_i hb5
                    obtain ⟨b5, b6⟩ := and_true hb5
                    have b5 := ble_le b5
                    rw [hl] at f1 f3 hnl
                    have nil : ∀ cap', appNew σ (n + 1) i.size new = .ok (v, σ') → (∃ base, ren ι s = .slice base 0 cap' ∧ (Builtin.firstCells i.size 0 (.slice base 0 cap')).run cx.P w.drew = .ok #[] w.drew) → cap' = 0 →
                        ∃ ι' D' w', (Builtin.append_ #[t, u] ty #[ren ι s, ren ι x]).run cx.P w = .ok (ren ι' v) w' ∧ Rel ι' D' σ' w' ∧ Go1 ι D σ w ι' D' σ' w' ∧ vok ι' D' v := by
                      intro cap' h ⟨base, hb, hf⟩ hc
                      subst hc
                      simp only [appNew] at h
                      cases h
                      have hge := grownCap_ge w (0 + (n + 1)) 0 e
                      obtain ⟨ι', D', k1, k2, k3, k4⟩ := appNew_sound (n := n + 1) (z := z.cells) R hm b2 f2 hnl b1 (cap := grownCap w (0 + (n + 1)) 0 e) (by omega) (e := e)
                      refine ⟨ι', D', _, ?_, k1, k2, k4⟩
                      rw [hb]
                      have hrun := run_append_new (P := cx.P) (w := w) (ty := ty) (base := base) (sLen := 0) (sCap := 0) ht' hu' hnum hi' hz' (x := ren ι x) (n := n + 1) (old := []) (new := new.map (ren ι)) f3 hf (f1 _ rfl) (by omega) (by omega) b3
                      rw [hrun, k3]
                      simp
                    unfold appN at h
                    split at h
                    · rename_i c
                      rw [vok] at hs
                      obtain ⟨_, rfl⟩ := hs
                      exact nil 0 h ⟨none, by simp [ren], by simp [Builtin.firstCells]⟩ rfl
                    · rename_i b off len esz
                      split at h
                      · rename_i hb7
                        obtain ⟨b7, b8⟩ := and_true hb7
                        have b7 := beq_eq b7; have b8 := ble_le b8
                        subst b7
                        unfold appB at h
                        split at h
                        · rename_i cs fam start hblk
                          exact appCut_sound R hm ht' hu' hnum hi' hz' b1 b2 b3 hblk hs hx hl b8 hsrc b6 hnl h
                        · rename_i hblk
                          split at h
                          · obtain ⟨hD, hv⟩ := R.live b _ hblk
                            have hv := hv rfl
                            refine nil 0 h ⟨some ⟨(ι b).blk, (ι b).shift + off, none⟩, ?_, by simp [Builtin.firstCells, loadCells, loadCellsFrom]⟩ rfl
                            rw [ren]
                            simp only [renA]
                            rw [show (ι b).limit - ((ι b).shift + off) = 0 by omega, Nat.zero_div]
                          · cases h
                        · cases h
                      · cases h
                    · cases h
                  · cases h
            · cases h
    · cases h
  · cases h

end
end
end Go.VI
