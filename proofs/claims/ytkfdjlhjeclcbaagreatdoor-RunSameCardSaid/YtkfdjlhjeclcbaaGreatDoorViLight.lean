/-
  VI: what is light, held against the model's own operations.
-/
import Derived.Test.YtkfdjlhjeclcbaaGreatDoorViRel
import Derived.Laws.AppendOwn
import Derived.ChangeKeysEq
import Derived.MapKept
import Derived.OwnWalk
namespace Go.VI
open Go
noncomputable section

/-- The machine's operands are the interpreter's, renamed. -/
def Ops (ι : Emb) (D : Nat → Prop) (T : Tr Value) (ρ : Operand → Value) (xs : Array Operand) : Prop :=
  ∀ x ∈ xs, ∀ v, evalO T x = .ok v → ρ x = ren ι v ∧ vok ι D v

theorem pureRun_run {α : Type} (P : Program) (s : Sem α) {a : α} (h : pureRun P s = some a) (w : World) : s.run P w = .ok a w := by
  induction s with
  | pure b => simp only [pureRun] at h; cases h; rfl
  | program k ih => simp only [pureRun] at h; simp only [Sem.run]; exact ih P h
  | _ => simp [pureRun] at h

theorem vv_val {r : Rs Value} {v : Value} (h : vv r = .ok (.val v)) : r = .ok v := by
  cases r <;> simp [vv] at h
  rw [h]

theorem vv_new {r : Rs Value} {k : Kn} {cs : List Value} {mk : Nat → Value} (h : vv r = .ok (.new k cs mk)) : False := by
  cases r <;> simp [vv] at h

theorem vv_wr {r : Rs Value} {b : Nat} {cs : List Value} {f s : Nat} (h : vv r = .ok (.wr b cs f s)) : False := by
  cases r <;> simp [vv] at h

theorem and_true {a b : Bool} (h : (a && b) = true) : a = true ∧ b = true := by simpa using h

theorem ble_le {a b : Nat} (h : Nat.ble a b = true) : a ≤ b := Nat.le_of_ble_eq_true h
theorem beq_eq {a b : Nat} (h : Nat.beq a b = true) : a = b := Nat.eq_of_beq_eq_true h

section
variable {cx : Cx} {ι : Emb} {D : Nat → Prop} {σ : Mem} {w : World} {T : Tr Value} {ρ : Operand → Value}

theorem plain_sound : ∀ (xs : List Operand), (∀ x ∈ xs, ∀ v, evalO T x = .ok v → ρ x = ren ι v ∧ vok ι D v) → plain T xs = true → ∀ x ∈ xs, rho T x = ρ x
  | [], _, _, x, hx => by simp at hx
  | y :: r, hρ, h, x, hx => by
    simp only [plain] at h
    cases hy : evalO T y with
    | er w => rw [hy] at h; cases h
    | ok v =>
      rw [hy] at h
      obtain ⟨h1, h2⟩ := and_true h
      rcases List.mem_cons.1 hx with rfl | hx
      · rw [(hρ x (by simp) v hy).1, (vok_shut (ι := ι) (D := D) h1).1]
        simp [rho, hy]
      · exact plain_sound r (fun z hz => hρ z (by simp [hz])) h2 x hx

theorem ofVal_ok {u v : Value} {b : Bool} (h : ofVal u b = .ok (.val v)) : u = v ∧ b = true := by
  cases b <;> simp [ofVal] at h
  exact ⟨h, rfl⟩

theorem ofVal_new {u : Value} {b : Bool} {k : Kn} {cs : List Value} {mk : Nat → Value} (h : ofVal u b = .ok (.new k cs mk)) : False := by
  cases b <;> simp [ofVal] at h

theorem ofPure_new {r : Option Next} {k : Kn} {cs : List Value} {mk : Nat → Value} (h : ofPure r = .ok (.new k cs mk)) : False := by
  unfold ofPure at h
  split at h
  · exact ofVal_new h
  · cases h

theorem ofPure_ok {r : Option Next} {v : Value} (h : ofPure r = .ok (.val v)) : r = some (.value v) ∧ shut v = true := by
  unfold ofPure at h
  split at h
  · obtain ⟨rfl, h2⟩ := ofVal_ok h
    exact ⟨rfl, h2⟩
  · cases h

theorem byModel_shut {o : Oper} {v : Value} (h : byModel cx o T = .ok (.val v)) : shut v = true := by
  unfold byModel at h
  split at h
  · exact (ofPure_ok h).2
  · cases h

/-- What a pure run comes to, at operands without addresses, is a value; of its addresses nothing is known: it is held to have none. -/
theorem byModel_run (o : Oper) (hs : ∀ cs b, o.op ≠ .select cs b) (hρ : Ops ι D T ρ o.op.operands) {v : Value} (h : byModel cx o T = .ok (.val v)) :
    (execOp ρ o).run cx.P w = .ok (.value v) w := by
  simp only [byModel] at h
  cases hp : plain T o.op.operands.toList with
  | false => rw [hp] at h; cases h
  | true =>
    rw [hp] at h
    simp only [ofPure] at h
    cases hr : pureRun cx.P (execOp (rho T) o) with
    | none => rw [hr] at h; cases h
    | some nx =>
      rw [hr] at h
      cases nx <;> simp at h
      rename_i u
      have h := (ofVal_ok h).1
      subst h
      rw [← pureRun_run _ _ hr w]
      congr 1
      exact (execOp_congr o hs fun x hx => plain_sound (ρ := ρ) (ι := ι) (D := D) _ (fun x hx => hρ x (by simpa using hx)) hp x (by simpa using hx)).symm

theorem cells_sound (R : Rel ι D σ w) {b : Nat} {cs : List Value} (h : σ.cells? b = some cs) :
    D b ∧ ∃ c t fz, w.heap[(ι b).blk]? = some (.cells c t fz) ∧ cellsR ι D cs (ι b) c := by
  unfold Mem.cells? cellsB at h
  cases hb : σ.h.get b with
  | none => rw [hb] at h; cases h
  | some blk =>
    rw [hb] at h
    obtain ⟨hD, hR⟩ := R.live b blk hb
    cases blk <;> simp at h <;> subst h
    · obtain ⟨c, t, h1, h2⟩ := hR
      exact ⟨hD, c, t, _, h1, h2⟩
    · exact ⟨hD, hR.1⟩

theorem cell_of {b : Nat} {off : Nat} {c : Array Value} {t : TypeId} {fz : Nat × Nat} {v : Value} (h : w.heap[b]? = some (.cells c t fz)) (hv : c[off]? = some v) :
    w.cell? ⟨b, off, none⟩ = some v := by
  simp [World.cell?, h, hv]

theorem add_lit (b off n : Nat) : Addr.add ⟨b, off, none⟩ n = ⟨b, off + n, none⟩ := by
  unfold Addr.add
  split
  · rename_i h; subst h; rfl
  · rfl

theorem cut_some {cs r : List Value} {off n : Nat} (h : cut cs off n = some r) : off + n ≤ cs.length ∧ r = (cs.drop off).take n := by
  unfold cut at h
  cases hb : Nat.ble (off + n) cs.length with
  | false => rw [hb] at h; cases h
  | true => rw [hb] at h; cases h; exact ⟨ble_le hb, rfl⟩

theorem loadCells_sound {cs : List Value} {e : Em} {c : Array Value} {t : TypeId} {fz : Nat × Nat} (h : w.heap[e.blk]? = some (.cells c t fz)) (hc : cellsR ι D cs e c)
    {off n : Nat} (hn : off + n ≤ cs.length) :
    (loadCells ⟨e.blk, e.shift + off, none⟩ n).run cx.P w = .ok (((cs.drop off).take n).map (ren ι)).toArray w ∧ ∀ v ∈ (cs.drop off).take n, vok ι D v := by
  obtain ⟨_, _, h3⟩ := hc
  have hl : (((cs.drop off).take n).map (ren ι)).length = n := by simp; omega
  have hget : ∀ j v, ((cs.drop off).take n)[j]? = some v → cs[off + j]? = some v := by
    intro j v hj
    rw [List.getElem?_take] at hj
    split at hj
    · rw [List.getElem?_drop] at hj; exact hj
    · cases hj
  constructor
  · have := run_loadCells_list (P := cx.P) w ⟨e.blk, e.shift + off, none⟩ (((cs.drop off).take n).map (ren ι)) (fun j v hj => by
      rw [List.getElem?_map] at hj
      cases hu : ((cs.drop off).take n)[j]? with
      | none => rw [hu] at hj; cases hj
      | some u =>
        rw [hu] at hj; cases hj
        rw [add_lit, Nat.add_assoc]
        exact cell_of h (h3 _ _ (hget j u hu)).1)
    rw [hl] at this
    exact this
  · intro v hv
    obtain ⟨j, hj⟩ := List.getElem?_of_mem hv
    exact (h3 _ _ (hget j v hj)).2

theorem aggR_ok {r : Option (List Value)} {v : Value} (h : aggR r = .ok v) : ∃ cs, r = some cs ∧ v = .agg cs.toArray := by
  cases r <;> simp [aggR] at h
  exact ⟨_, rfl, h.symm⟩

theorem oneR_ok {r : Option Value} {v : Value} (h : oneR r = .ok v) : r = some v := by
  cases r <;> simp [oneR] at h
  rw [h]

/-- A load's type: what it is, and what the model says of it. -/
theorem loadI_ok (ok : CxOk cx) {t : TypeId} {cs : List Value} {off : Nat} {v : Value} (h : loadI cx (cx.info t) cs off = .ok v) :
    ∃ i d, cx.P.info? t = some i ∧ cx.P.underlying t = some d ∧ ((aggD d = true ∧ off + i.size ≤ cs.length ∧ v = .agg ((cs.drop off).take i.size).toArray) ∨ (aggD d = false ∧ cs[off]? = some v)) := by
  unfold loadI at h
  cases hi : cx.info t with
  | none => rw [hi] at h; cases h
  | some i =>
    rw [hi] at h
    simp only at h
    cases hd : descOf i cx.info with
    | none => rw [hd] at h; cases h
    | some d =>
      rw [hd] at h
      simp only at h
      refine ⟨i, d, ok.info t i hi, descOf_sound ok hi hd, ?_⟩
      cases ha : aggD d with
      | true =>
        rw [ha] at h
        obtain ⟨cs', h1, h2⟩ := aggR_ok h
        obtain ⟨h3, h4⟩ := cut_some h1
        exact .inl ⟨rfl, h3, by rw [h2, h4]⟩
      | false =>
        rw [ha] at h
        exact .inr ⟨rfl, oneR_ok h⟩

theorem run_isAgg {P : Program} {w : World} {t : TypeId} {d : TypeDesc} (h : P.underlying t = some d) : (isAgg t).run P w = .ok (aggD d) w := by
  simp only [isAgg, Sem.run_bind, run_underlying h, Result.andThen_ok]
  cases d <;> rfl

theorem loadVar_sound (ok : CxOk cx) {t : TypeId} {cs : List Value} {e : Em} {c : Array Value} {tt : TypeId} {fz : Nat × Nat} (hb : w.heap[e.blk]? = some (.cells c tt fz)) (hc : cellsR ι D cs e c)
    {off : Nat} {v : Value} (h : loadI cx (cx.info t) cs off = .ok v) :
    (loadVar t ⟨e.blk, e.shift + off, none⟩).run cx.P w = .ok (ren ι v) w ∧ vok ι D v := by
  obtain ⟨i, d, hi, hd, h | h⟩ := loadI_ok ok h
  · obtain ⟨ha, hn, rfl⟩ := h
    obtain ⟨h1, h2⟩ := loadCells_sound (cx := cx) hb hc hn
    constructor
    · simp only [loadVar, Sem.run_bind, run_isAgg hd, ha, Result.andThen_ok, if_true, run_sizeOf w hi, Program.cellsOf, hi, Option.map_some, Option.getD_some, h1, Sem.run_pure]
      simp [ren]
    · rw [vok]; intro u hu; exact h2 u (by simpa using hu)
  · obtain ⟨ha, hv⟩ := h
    obtain ⟨h1, h2⟩ := hc.2.2 _ _ hv
    constructor
    · simp only [loadVar, Sem.run_bind, run_isAgg hd, ha, Result.andThen_ok, Bool.false_eq_true, if_false]
      rw [run_load, cell_of hb h1]
    · exact h2

theorem load_sound (ok : CxOk cx) (R : Rel ι D σ w) {t : TypeId} {p v : Value} (h : loadA cx σ t p = .ok v) :
    (Instr.loadAt t (ren ι p)).run cx.P w = .ok (ren ι v) w ∧ vok ι D v := by
  unfold loadA at h
  split at h
  · rename_i b off
    unfold loadC at h
    cases hc : σ.cells? b with
    | none => rw [hc] at h; cases h
    | some cs =>
      rw [hc] at h
      obtain ⟨_, c, tt, fz, h1, h2⟩ := cells_sound R hc
      obtain ⟨h3, h4⟩ := loadVar_sound ok h1 h2 h
      refine ⟨?_, h4⟩
      simp only [Instr.loadAt, ren, renA, Instr.sureAddr, Sem.run_bind, Sem.run_pure, Result.andThen_ok]
      exact h3
  · cases h

theorem drop_take_extract (cs : Array Value) (off n : Nat) (h : off + n ≤ cs.toList.length) (f : Value → Value) :
    (cs.map f).extract off (off + n) = (((cs.toList.drop off).take n).map f).toArray := by
  apply Array.ext'
  simp [List.map_take, List.map_drop, List.take_drop]

theorem part_sound (ok : CxOk cx) {t : TypeId} {cs : Array Value} {off : Nat} {v : Value} (hc : ∀ u ∈ cs, vok ι D u) (h : loadI cx (cx.info t) cs.toList off = .ok v) :
    (part t (cs.map (ren ι)) off).run cx.P w = .ok (ren ι v) w ∧ vok ι D v := by
  obtain ⟨i, d, hi, hd, h | h⟩ := loadI_ok ok h
  · obtain ⟨ha, hn, rfl⟩ := h
    constructor
    · simp only [part, Sem.run_bind, run_isAgg hd, ha, Result.andThen_ok, if_true, run_sizeOf w hi, Program.cellsOf, hi, Option.map_some, Option.getD_some, Sem.run_pure]
      rw [drop_take_extract cs off i.size hn]
      simp [ren]
    · rw [vok]
      intro u hu
      exact hc u (Array.mem_toList_iff.1 (List.mem_of_mem_drop (List.mem_of_mem_take (by simpa using hu))))
  · obtain ⟨ha, hv⟩ := h
    have hv' : cs[off]? = some v := by simpa using hv
    constructor
    · simp only [part, Sem.run_bind, run_isAgg hd, ha, Result.andThen_ok, Bool.false_eq_true, if_false]
      rw [Array.getElem?_map, hv']
      rfl
    · exact hc v (Array.mem_of_getElem? hv')

theorem fieldOf_ok (ok : CxOk cx) {s : TypeId} {f : Nat} {fd : Field} (h : fieldOf cx s f = some fd) : ∃ fs, cx.P.underlying s = some (.struct fs) ∧ fs[f]? = some fd := by
  unfold fieldOf fieldsOf at h
  cases hu : cx.und s with
  | none => rw [hu] at h; cases h
  | some d =>
    rw [hu] at h
    cases d <;> simp at h
    rename_i fs
    exact ⟨fs, und_sound ok hu, by simpa using h⟩

theorem field_sound (ok : CxOk cx) {s : TypeId} {f : Nat} {cs : Array Value} {v : Value} (hc : vok ι D (.agg cs)) (h : partA cx cs (fieldOf cx s f) = .ok v) :
    (Instr.field s (ren ι (.agg cs)) f).run cx.P w = .ok (ren ι v) w ∧ vok ι D v := by
  unfold partA at h
  cases hf : fieldOf cx s f with
  | none => rw [hf] at h; cases h
  | some fd =>
    rw [hf] at h
    obtain ⟨fs, hu, hg⟩ := fieldOf_ok ok hf
    rw [vok] at hc
    obtain ⟨h1, h2⟩ := part_sound (w := w) ok hc h
    refine ⟨?_, h2⟩
    simp only [Instr.field, Sem.run_bind, run_underlying hu, Result.andThen_ok, hg, ren, asAgg, Sem.run_pure]
    exact h1

theorem sizeOf_ok (ok : CxOk cx) {t : TypeId} {n : Nat} (h : sizeOf? cx t = some n) : ∃ i, cx.info t = some i ∧ cx.P.info? t = some i ∧ i.size = n := by
  unfold sizeOf? at h
  cases hi : cx.info t with
  | none => rw [hi] at h; cases h
  | some i => rw [hi] at h; cases h; exact ⟨i, rfl, ok.info t i hi, rfl⟩

theorem run_sizeOf' (ok : CxOk cx) {t : TypeId} {n : Nat} (h : sizeOf? cx t = some n) : (sizeOf t).run cx.P w = .ok n w := by
  obtain ⟨i, _, hi, rfl⟩ := sizeOf_ok ok h
  rw [run_sizeOf w hi]
  simp [Program.cellsOf, hi]

theorem fieldAddr_sound (ok : CxOk cx) {s : TypeId} {f b off : Nat} {v : Value} (hD : D b) (h : fieldAddrF cx b off (fieldOf cx s f) = .ok v) :
    (Instr.fieldAt s (ren ι (.pointer (some ⟨b, off, none⟩))) f).run cx.P w = .ok (ren ι v) w ∧ vok ι D v := by
  unfold fieldAddrF at h
  cases hf : fieldOf cx s f with
  | none => rw [hf] at h; cases h
  | some fd =>
    rw [hf] at h
    simp only at h
    obtain ⟨fs, hu, hg⟩ := fieldOf_ok ok hf
    cases hs : sizeOf? cx fd.type with
    | none => rw [hs] at h; cases h
    | some n =>
      rw [hs] at h
      simp only at h
      cases hb : Nat.ble 1 n with
      | false => rw [hb] at h; cases h
      | true =>
        rw [hb] at h
        cases h
        have h1 := ble_le hb
        constructor
        · simp only [Instr.fieldAt, Sem.run_bind, run_underlying hu, Result.andThen_ok, hg, ren, renA, Instr.sureAddr, Sem.run_pure, fieldPlace, run_sizeOf' ok hs]
          rw [if_neg (by omega)]
          simp [add_lit, Nat.add_assoc]
        · rw [vok]; exact ⟨hD, rfl⟩

theorem idxI_ok {e : Option Nat} {b off n len : Nat} {esz : Option Nat} {v : Value} (h : idxI e b off n esz len = .ok v) :
    ∃ sz, e = some sz ∧ n < len ∧ 0 < sz ∧ (∀ z, esz = some z → sz = z) ∧ v = .pointer (some ⟨b, off + n * sz, none⟩) := by
  unfold idxI at h
  cases e with
  | none => cases h
  | some sz =>
    simp only at h
    split at h
    · rename_i hb
      obtain ⟨h1, h2⟩ := and_true hb
      obtain ⟨h1, h3⟩ := and_true h1
      cases h
      refine ⟨sz, rfl, ble_le h1, ble_le h3, fun z hz => ?_, rfl⟩
      subst hz
      exact beq_eq h2
    · cases h

theorem index_sound (ok : CxOk cx) {t : TypeId} {x v : Value} {k : IntKind} {n : Nat} (hx : vok ι D x) (h : idxN cx t x n = .ok v) :
    (Instr.indexAt t (ren ι x) (.int k (.ofNat n))).run cx.P w = .ok (ren ι v) w ∧ vok ι D v := by
  unfold idxN at h
  cases hu : cx.und t with
  | none => rw [hu] at h; cases h
  | some d =>
    rw [hu] at h
    have hu' := und_sound ok hu
    cases d <;> simp only at h <;> try (cases h; done)
    · -- a slice
      rename_i e
      split at h
      · rename_i b off len esz
        obtain ⟨sz, h1, h2, h3, h4, rfl⟩ := idxI_ok h
        rw [vok] at hx
        obtain ⟨hD, _, _, _⟩ := hx
        constructor
        · simp only [Instr.indexAt, asIntOf, Sem.run_bind, Sem.run_pure, run_underlying hu', Result.andThen_ok, ren, renA]
          rw [if_pos ⟨Int.natCast_nonneg n, by simpa using h2⟩]
          simp [add_lit, Nat.add_assoc, run_sizeOf' ok h1]
        · rw [vok]; exact ⟨hD, rfl⟩
      · cases h
    · -- an array
      rename_i len e
      split at h
      · rename_i b off
        obtain ⟨sz, h1, h2, h3, h4, rfl⟩ := idxI_ok h
        rw [vok] at hx
        constructor
        · simp only [Instr.indexAt, asIntOf, Sem.run_bind, Sem.run_pure, run_underlying hu', Result.andThen_ok, ren, renA, Instr.sureAddr]
          rw [if_pos ⟨Int.natCast_nonneg n, by simpa using h2⟩]
          simp [add_lit, Nat.add_assoc, run_sizeOf' ok h1]
        · rw [vok]; exact ⟨hx.1, rfl⟩
      · cases h

theorem zeroI_ok {i : TypeInfo} {z : Value} (h : zeroI i = some z) : i.zero = some z ∧ ren ι z = z ∧ vok ι D z := by
  unfold zeroI at h
  cases hz : i.zero with
  | none => rw [hz] at h; cases h
  | some u =>
    rw [hz] at h
    simp only [shutO] at h
    cases hs : shut u with
    | false => rw [hs] at h; cases h
    | true => rw [hs] at h; cases h; exact ⟨rfl, vok_shut hs⟩

theorem run_zeroI {P : Program} {t : TypeId} {i : TypeInfo} {z : Value} (hi : P.info? t = some i) (h : i.zero = some z) : (zeroValue t).run P w = .ok z w := by
  simp [zeroValue, run_typeInfo w hi, h]

theorem zeroOf_ok (ok : CxOk cx) {t : TypeId} {z : Value} (h : zeroOf cx t = some z) : (zeroValue t).run cx.P w = .ok z w ∧ ren ι z = z ∧ vok ι D z := by
  unfold zeroOf at h
  cases hi : cx.info t with
  | none => rw [hi] at h; cases h
  | some i =>
    rw [hi] at h
    obtain ⟨h1, h2⟩ := zeroI_ok (ι := ι) (D := D) h
    exact ⟨run_zeroI (ok.info t i hi) h1, h2⟩

/-! Slices -/

theorem boundV_ok {r : Rs Value} {n : Nat} (h : boundV r = .ok n) : ∃ k, r = .ok (.int k (.ofNat n)) := by
  unfold boundV at h
  split at h
  · cases h; exact ⟨_, rfl⟩
  · cases h
  · cases h

theorem run_sliceBound {P : Program} {w : World} {k : IntKind} {n y : Nat} {code : BoundsCode} (h : n ≤ y) : (Instr.sliceBound (.int k (.ofNat n)) y code).run P w = .ok n w := by
  simp only [Instr.sliceBound, asIntOf, Sem.run_bind, Sem.run_pure, Result.andThen_ok]
  rw [if_pos ⟨Int.natCast_nonneg n, by simpa using h⟩]
  simp

/-- The bounds of a slice without a third one. -/
theorem bounds_sound {lo hi : Option Operand} {len cap l h : Nat} {sl : Bool} (hl : bound? T 0 lo = .ok l) (hh : bound? T len hi = .ok h) (hlh : l ≤ h) (hc : h ≤ cap)
    (hρl : ∀ x ∈ lo, ∀ v, evalO T x = .ok v → ρ x = ren ι v) (hρh : ∀ x ∈ hi, ∀ v, evalO T x = .ok v → ρ x = ren ι v) :
    (Instr.sliceBounds sl len cap (lo.map ρ) (hi.map ρ) none).run cx.P w = .ok (l, h, cap) w := by
  unfold Instr.sliceBounds
  cases hi with
  | none =>
    simp only [bound?] at hh
    cases hh
    cases lo with
    | none =>
      simp only [bound?] at hl
      cases hl
      simp
    | some x =>
      simp only [bound?] at hl
      obtain ⟨k, hk⟩ := boundV_ok hl
      have hx := hρl x (by simp) _ hk
      simp only [ren] at hx
      simp only [Option.map_none, Option.map_some, Sem.run_bind, Sem.run_pure, Result.andThen_ok, Option.isSome_none, Bool.false_eq_true, if_false, hx, run_sliceBound hlh]
  | some y =>
    simp only [bound?] at hh
    obtain ⟨k', hk'⟩ := boundV_ok hh
    have hy := hρh y (by simp) _ hk'
    simp only [ren] at hy
    cases lo with
    | none =>
      simp only [bound?] at hl
      cases hl
      simp only [Option.map_none, Option.map_some, Sem.run_bind, Sem.run_pure, Result.andThen_ok, hy, run_sliceBound hc]
    | some x =>
      simp only [bound?] at hl
      obtain ⟨k, hk⟩ := boundV_ok hl
      have hx := hρl x (by simp) _ hk
      simp only [ren] at hx
      simp only [Option.map_none, Option.map_some, Sem.run_bind, Sem.run_pure, Result.andThen_ok, Option.isSome_none, Bool.false_eq_true, if_false, hx, hy, run_sliceBound hc, run_sliceBound hlh]

/-- Three bounds, all nothing. -/
theorem bounds3_sound {lo : Option Operand} {y m : Operand} {len cap : Nat} {sl : Bool} (hl : bound? T 0 lo = .ok 0) (hh : bound? T len (some y) = .ok 0) (hm : boundV (evalO T m) = .ok 0)
    (hρl : ∀ x ∈ lo, ∀ v, evalO T x = .ok v → ρ x = ren ι v) (hρh : ∀ v, evalO T y = .ok v → ρ y = ren ι v) (hρm : ∀ v, evalO T m = .ok v → ρ m = ren ι v) :
    (Instr.sliceBounds sl len cap (lo.map ρ) ((some y).map ρ) ((some m).map ρ)).run cx.P w = .ok (0, 0, 0) w := by
  unfold Instr.sliceBounds
  simp only [bound?] at hh
  obtain ⟨k', hk'⟩ := boundV_ok hh
  have hy := hρh _ hk'
  simp only [ren] at hy
  obtain ⟨k2, hk2⟩ := boundV_ok hm
  have hm2 := hρm _ hk2
  simp only [ren] at hm2
  cases lo with
  | none =>
    simp only [Option.map_none, Option.map_some, Sem.run_bind, Sem.run_pure, Result.andThen_ok, hy, hm2, run_sliceBound (Nat.zero_le _)]
  | some x =>
    simp only [bound?] at hl
    obtain ⟨k, hk⟩ := boundV_ok hl
    have hx := hρl x (by simp) _ hk
    simp only [ren] at hx
    simp only [Option.map_some, Sem.run_bind, Sem.run_pure, Result.andThen_ok, hx, hy, hm2, run_sliceBound (Nat.zero_le _)]

theorem cap_div {limit o len esz l : Nat} (h0 : 0 < esz) (h : o + len * esz ≤ limit) (hl : l ≤ len) :
    len ≤ (limit - o) / esz ∧ (limit - o) / esz - l = (limit - (o + l * esz)) / esz := by
  constructor
  · rw [Nat.le_div_iff_mul_le h0]; omega
  · rw [Nat.sub_add_eq, Nat.mul_comm l esz, Nat.sub_mul_div]

/-- 'x[lo:hi]' of a slice that is not cut to nothing. -/
theorem slice_sound (ok : CxOk cx) {t : TypeId} {a : Option Addr} {len esz : Nat} {lo hi mx : Option Operand} {v : Value} (hx : vok ι D (.slice a len esz))
    (hρl : ∀ x ∈ lo, ∀ v, evalO T x = .ok v → ρ x = ren ι v) (hρh : ∀ x ∈ hi, ∀ v, evalO T x = .ok v → ρ x = ren ι v) (hρm : ∀ x ∈ mx, ∀ v, evalO T x = .ok v → ρ x = ren ι v)
    (h : sliceA cx T t a len esz lo hi mx = .ok (.val v)) :
    (Instr.sliceAt t (ren ι (.slice a len esz)) (lo.map ρ) (hi.map ρ) (mx.map ρ)).run cx.P w = .ok (ren ι v) w ∧ vok ι D v := by
  unfold sliceA at h
  cases hu : cx.und t with
  | none => rw [hu] at h; cases h
  | some d =>
    rw [hu] at h
    have hu' := und_sound ok hu
    cases d <;> simp only at h <;> try (cases h; done)
    rename_i e
    cases hs : sizeOf? cx e with
    | none => rw [hs] at h; cases h
    | some n =>
      rw [hs] at h
      simp only at h
      cases hl : bound? T 0 lo with
      | er w => rw [hl] at h; cases h
      | ok l =>
        rw [hl] at h
        simp only at h
        cases hh : bound? T len hi with
        | er w => rw [hh] at h; cases h
        | ok hgh =>
          rw [hh] at h
          simp only at h
          have run_at : ∀ x, (Instr.sliceAt t x (lo.map ρ) (hi.map ρ) (mx.map ρ)).run cx.P w = (Instr.slice t x (lo.map ρ) (hi.map ρ) (mx.map ρ)).run cx.P w := by
            intro x
            simp only [Instr.sliceAt, Sem.run_bind, run_underlying hu', Result.andThen_ok]
          rw [run_at]
          cases mx with
          | some m =>
            simp only at h
            cases hi with
            | none => cases h
            | some y =>
            simp only at h
            cases hm : boundV (evalO T m) with
            | er w => rw [hm] at h; cases h
            | ok mm =>
              rw [hm] at h
              simp only [slice3] at h
              split at h
              · rename_i hb
                obtain ⟨h1, h2⟩ := and_true hb
                obtain ⟨h1, h3⟩ := and_true h1
                have h1 := beq_eq h1; have h2 := beq_eq h2; have h3 := beq_eq h3
                subst h1; subst h2; subst h3
                split at h
                · -- nil
                  cases h
                  rw [vok] at hx
                  obtain ⟨rfl, rfl⟩ := hx
                  refine ⟨?_, by rw [vok]; exact ⟨rfl, rfl⟩⟩
                  simp only [Instr.slice, Sem.run_bind, run_underlying hu', Result.andThen_ok, ren]
                  rw [bounds3_sound (cx := cx) (ι := ι) hl hh hm hρl (hρh y (by simp)) (hρm m (by simp))]
                  simp [run_sizeOf' ok hs]
                · split at h <;> cases h
                · cases h
              · cases h
          | none =>
            simp only [sliceAt] at h
            split at h
            · rename_i hb
              obtain ⟨h1, h2⟩ := and_true hb
              have h1 := ble_le h1; have h2 := ble_le h2
              split at h
              · -- nil
                cases h
                rw [vok] at hx
                obtain ⟨rfl, rfl⟩ := hx
                obtain rfl : hgh = 0 := by omega
                obtain rfl : l = 0 := by omega
                refine ⟨?_, by rw [vok]; exact ⟨rfl, rfl⟩⟩
                simp only [Instr.slice, Sem.run_bind, run_underlying hu', Result.andThen_ok, ren, Option.map_none]
                rw [bounds_sound (cx := cx) (ι := ι) hl hh (Nat.le_refl _) (Nat.le_refl _) hρl hρh]
                simp [run_sizeOf' ok hs]
              · rename_i b off
                rw [vok] at hx
                obtain ⟨hD, _, h0, hlim⟩ := hx
                simp only at hlim
                have hcap := fun (j : Nat) (hj : j ≤ len) => cap_div (l := j) h0 hlim hj
                have hrun : (Instr.slice t (ren ι (.slice (some ⟨b, off, none⟩) len esz)) (lo.map ρ) (hi.map ρ) none).run cx.P w =
                    .ok (.slice (if ((ι b).limit - ((ι b).shift + off)) / esz = l then some ⟨(ι b).blk, (ι b).shift + off, none⟩ else some ⟨(ι b).blk, (ι b).shift + off + l * n, none⟩) (hgh - l) (((ι b).limit - ((ι b).shift + off)) / esz - l)) w := by
                  simp only [Instr.slice, Sem.run_bind, run_underlying hu', Result.andThen_ok, ren, renA]
                  rw [bounds_sound (cx := cx) (ι := ι) hl hh h1 (Nat.le_trans h2 (hcap 0 (Nat.zero_le _)).1) hρl hρh]
                  simp [run_sizeOf' ok hs, add_lit]
                rw [Option.map_none, hrun]
                split at h
                · rename_i hb2
                  obtain ⟨h3, h4⟩ := and_true hb2
                  have h3 := beq_eq h3
                  subst h3
                  cases l with
                  | zero =>
                    cases h
                    constructor
                    · simp [ren, renA]
                    · rw [vok]
                      refine ⟨hD, rfl, h0, ?_⟩
                      have : hgh * n ≤ len * n := Nat.mul_le_mul_right _ h2
                      simp only; omega
                  | succ l =>
                    simp only at h
                    split at h
                    · rename_i hb3
                      have h5 := ble_le hb3
                      cases h
                      have hne : ¬ ((ι b).limit - ((ι b).shift + off)) / n = l + 1 := by
                        have := (hcap 0 (Nat.zero_le _)).1
                        omega
                      rw [if_neg hne, (hcap (l + 1) (by omega)).2]
                      constructor
                      · simp [ren, renA, Nat.add_assoc]
                      · rw [vok]
                        refine ⟨hD, rfl, h0, ?_⟩
                        have e1 : (l + 1) * n + (hgh - (l + 1)) * n = hgh * n := by rw [← Nat.add_mul]; congr 1; omega
                        have : hgh * n ≤ len * n := Nat.mul_le_mul_right _ h2
                        simp only; omega
                    · cases h
                · cases h
              · cases h
            · cases h

end
end
end Go.VI
