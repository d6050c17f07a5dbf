/-
  VI: what is light, held against the model's own operations: types, tuples, building; all values; all new blocks.
-/
import Derived.Test.YtkfdjlhjeclcbaaGreatDoorViLight3
namespace Go.VI
open Go
noncomputable section
section
variable {cx : Cx} {ι : Emb} {D : Nat → Prop} {σ : Mem} {w : World} {T : Tr Value} {ρ : Operand → Value}

theorem len_sound (ok : CxOk cx) (R : Rel ι D σ w) {t ty : TypeId} {x v : Value} (h : lenA cx σ t x = .ok v) :
    (Builtin.len_ #[t] ty #[ren ι x]).run cx.P w = .ok (ren ι v) w ∧ vok ι D v := by
  unfold lenA at h
  split at h
  · rename_i hu
    have hu' := und_sound ok hu
    split at h
    · cases h
      refine ⟨?_, by simp [vok]⟩
      rw [← Lib.size_eq]
      simp [Builtin.len_, run_underlying hu', ren, goInt]
    · cases h
  · rename_i hu
    have hu' := und_sound ok hu
    split at h
    · rename_i a n c
      cases h
      refine ⟨?_, by simp [vok]⟩
      cases a <;> simp [Builtin.len_, run_underlying hu', ren, goInt]
    · cases h
  · rename_i hu
    have hu' := und_sound ok hu
    cases h
    refine ⟨?_, by simp [vok]⟩
    simp [Builtin.len_, run_underlying hu', ren, goInt]
  · rename_i hu
    have hu' := und_sound ok hu
    split at h
    · rename_i r
      unfold lenM at h
      split at h
      · rename_i es clock hm
        cases h
        refine ⟨?_, by simp [vok]⟩
        rcases mapOf_sound R hm with ⟨rfl, rfl⟩ | ⟨b, rfl, _, _, h1, _⟩
        · simp [Builtin.len_, run_underlying hu', ren, goInt]
        · simp only [ren]
          simp [Builtin.len_, run_underlying hu', ren, goInt, MapKept.run_getObj_map h1]
      · cases h
    · cases h
  · cases h

theorem assert_sound (ok : CxOk cx) {xt at_ : TypeId} {x v : Value} {commaOk : Bool} (hx : vok ι D x) (h : assertA cx at_ commaOk x = .ok v) :
    (Instr.typeAssert (ren ι x) xt at_ commaOk).run cx.P w = .ok (ren ι v) w ∧ vok ι D v := by
  have fails : failsA cx at_ commaOk = .ok v → commaOk = true ∧ ∃ z, (zeroValue at_).run cx.P w = .ok z w ∧ ren ι v = .tuple #[z, .bool false] ∧ vok ι D v := by
    intro h
    unfold failsA at h
    split at h
    · split at h
      · rename_i z hz
        cases h
        obtain ⟨z1, z2, z3⟩ := zeroOf_ok (ι := ι) (D := D) (w := w) ok hz
        refine ⟨rfl, z, z1, by simp [ren, z2], ?_⟩
        rw [vok]; intro y hy; simp at hy; rcases hy with rfl | rfl; exact z3; simp [vok]
      · cases h
    · cases h
  unfold assertA at h
  cases hu : cx.und at_ with
  | none => rw [hu] at h; cases h
  | some d =>
    rw [hu] at h
    have hu' := und_sound ok hu
    by_cases hif : ∃ ms, d = .interface ms
    · obtain ⟨ms, rfl⟩ := hif; cases h
    · have hd : assertX cx at_ commaOk x = .ok v := by
        cases d <;> first | exact h | exact (hif ⟨_, rfl⟩).elim
      unfold assertX at hd
      split at hd
      · rename_i t y
        unfold assertT at hd
        split at hd
        · rename_i hb
          have hb := beq_eq hb
          subst hb
          cases hd
          rw [vok] at hx
          have hrun : (Instr.typeAssert (ren ι (.iface t y)) xt t commaOk).run cx.P w = .ok (if commaOk then .tuple #[ren ι y, .bool true] else ren ι y) w := by
            simp only [Instr.typeAssert, Sem.run_bind, run_underlying hu', Result.andThen_ok, ren]
            cases d <;> first | (simp; done) | (cases commaOk <;> simp; done) | exact (hif ⟨_, rfl⟩).elim
          rw [hrun]
          cases commaOk with
          | true =>
            refine ⟨by simp [answer, ren], ?_⟩
            simp only [answer]; rw [vok]; intro z hz; simp at hz; rcases hz with rfl | rfl; exact hx; simp [vok]
          | false => exact ⟨by simp [answer], by simpa [answer] using hx⟩
        · rename_i hb
          have hne : ¬ t = at_ := fun e => by subst e; rw [Nat.beq_refl] at hb; cases hb
          obtain ⟨rfl, z, z1, z2, z3⟩ := fails hd
          refine ⟨?_, z3⟩
          rw [z2]
          simp only [Instr.typeAssert, Sem.run_bind, run_underlying hu', Result.andThen_ok, ren]
          cases d <;> first | (simp [hne, z1]; done) | exact (hif ⟨_, rfl⟩).elim
      · obtain ⟨rfl, z, z1, z2, z3⟩ := fails hd
        refine ⟨?_, z3⟩
        rw [z2]
        simp only [Instr.typeAssert, Sem.run_bind, run_underlying hu', Result.andThen_ok, ren]
        cases d <;> first | (simp [z1]; done) | exact (hif ⟨_, rfl⟩).elim
      · cases hd

/-! Building -/

theorem evalParts_sound : ∀ (ps : List (Nat × Operand)) (vs : List (Nat × Value)), (∀ p ∈ ps, ∀ v, evalO T p.2 = .ok v → ρ p.2 = ren ι v ∧ vok ι D v) → evalParts T ps = .ok vs →
    ps.map (fun p => (p.1, ρ p.2)) = vs.map (fun p => (p.1, ren ι p.2)) ∧ ∀ p ∈ vs, vok ι D p.2
  | [], vs, _, h => by simp only [evalParts] at h; cases h; simp
  | p :: r, vs, hρ, h => by
    simp only [evalParts, partC] at h
    cases hp : evalO T p.2 with
    | er e => rw [hp] at h; cases h
    | ok v =>
      rw [hp] at h
      simp only at h
      cases hr : evalParts T r with
      | er e => rw [hr] at h; cases h
      | ok us =>
        rw [hr] at h
        simp only at h
        cases h
        obtain ⟨h1, h2⟩ := evalParts_sound r us (fun q hq => hρ q (by simp [hq])) hr
        obtain ⟨h3, h4⟩ := hρ p (by simp) v hp
        refine ⟨by simp [h1, h3], fun q hq => ?_⟩
        rcases List.mem_cons.1 hq with rfl | hq
        · exact h4
        · exact h2 q hq

theorem overwrite_map (f : Value → Value) : ∀ (vs cs : List Value) (i : Nat), (overwrite cs i vs).map f = overwrite (cs.map f) i (vs.map f)
  | [], _, _ => rfl
  | v :: r, cs, i => by simp only [overwrite, List.map_cons]; rw [overwrite_map f r, List.map_set]

theorem overwrite_length : ∀ (vs cs : List Value) (i : Nat), (overwrite cs i vs).length = cs.length
  | [], _, _ => rfl
  | v :: r, cs, i => by simp only [overwrite]; rw [overwrite_length r]; simp

theorem overwrite_mem : ∀ (vs cs : List Value) (i : Nat) (v : Value), v ∈ overwrite cs i vs → v ∈ cs ∨ v ∈ vs
  | [], cs, i, v, h => .inl h
  | u :: r, cs, i, v, h => by
    simp only [overwrite] at h
    rcases overwrite_mem r _ _ v h with h1 | h1
    · rcases List.mem_or_eq_of_mem_set h1 with h2 | h2
      · exact .inl h2
      · exact .inr (by simp [h2])
    · exact .inr (by simp [h1])

theorem foldl_set (f : Nat) : ∀ (vs : List Value) (cs : Array Value) (off k : Nat), ((vs.zipIdx k).foldl (fun cs (p : Value × Nat) => cs.setIfInBounds (off + p.2) p.1) cs).toList = overwrite cs.toList (off + k) vs
  | [], cs, off, k => rfl
  | v :: r, cs, off, k => by
    simp only [List.zipIdx_cons, List.foldl_cons, overwrite]
    rw [foldl_set f r]
    simp [Nat.add_assoc]

theorem fill_sound {pl : Nat → Option (Nat × Nat)} : ∀ (ps : List (Nat × Value)) (cs out : List Value), fillA pl ps cs = .ok out →
    Instr.fill pl (cs.map (ren ι)).toArray (ps.map fun p => (p.1, ren ι p.2)) = some (out.map (ren ι)).toArray ∧ out.length = cs.length ∧
      ((∀ v ∈ cs, vok ι D v) → (∀ p ∈ ps, vok ι D p.2) → ∀ v ∈ out, vok ι D v)
  | [], cs, out, h => by simp only [fillA] at h; cases h; exact ⟨rfl, rfl, fun h1 _ => h1⟩
  | p :: r, cs, out, h => by
    simp only [fillA, fill1] at h
    cases hp : pl p.1 with
    | none => rw [hp] at h; cases h
    | some q =>
      obtain ⟨off, n⟩ := q
      rw [hp] at h
      simp only at h
      cases hb : (Nat.beq p.2.cells.size n && Nat.ble (off + n) cs.length) with
      | false => rw [hb] at h; cases h
      | true =>
        rw [hb] at h
        simp only at h
        obtain ⟨b1, b2⟩ := and_true hb
        have b1 := beq_eq b1
        have b2 := ble_le b2
        obtain ⟨g1, g2, g3⟩ := fill_sound r _ out h
        have hcells : (ren ι p.2).cells.toList = p.2.cells.toList.map (ren ι) := by
          cases hv : p.2 with
          | agg xs => simp [ren, Value.cells]
          | pointer a => cases a <;> simp [ren, Value.cells]
          | slice a n c => cases a <;> simp [ren, Value.cells]
          | map a => cases a <;> simp [ren, Value.cells]
          | _ => simp [ren, Value.cells]
        have hsize : (ren ι p.2).cells.size = p.2.cells.size := by
          rw [← Array.length_toList, hcells]; simp
        refine ⟨?_, by rw [g2, overwrite_length], fun h1 h2 => ?_⟩
        · simp only [List.map_cons, Instr.fill, hp, hsize]
          rw [if_neg (by simp [b1]; omega)]
          rw [← g1]
          congr 1
          apply Array.ext'
          rw [← Array.foldl_toList, Array.toList_zipIdx, foldl_set 0, hcells]
          simp [overwrite_map]
        · refine g3 (fun v hv => ?_) (fun q hq => h2 q (by simp [hq]))
          rcases overwrite_mem _ _ _ _ hv with h4 | h4
          · exact h1 v h4
          · have hp2 := h2 p (by simp)
            cases hv2 : p.2 with
            | agg xs =>
              rw [hv2] at h4 hp2
              rw [vok] at hp2
              exact hp2 v (by simpa [Value.cells] using h4)
            | _ =>
              rw [hv2] at h4 hp2
              simp only [Value.cells, List.mem_singleton] at h4
              rw [h4]; exact hp2

theorem vok_cells {v : Value} (h : vok ι D v) : ∀ u ∈ v.cells.toList, vok ι D u := by
  intro u hu
  cases hv : v with
  | agg xs =>
    rw [hv] at h hu
    rw [vok] at h
    exact h u (by simpa [Value.cells] using hu)
  | _ =>
    rw [hv] at h hu
    simp only [Value.cells, List.mem_singleton] at hu
    rw [hu]; exact h

theorem ren_cells (v : Value) : (ren ι v).cells.toList = v.cells.toList.map (ren ι) := by
  cases hv : v with
  | agg xs => simp [ren, Value.cells]
  | pointer a => cases a <;> simp [ren, Value.cells]
  | slice a n c => cases a <;> simp [ren, Value.cells]
  | map a => cases a <;> simp [ren, Value.cells]
  | _ => simp [ren, Value.cells]

theorem places_run {P : Program} {w : World} : ∀ (fs : List Field), (∀ f ∈ fs, ∃ i, P.info? f.type = some i) →
    (fs.mapM (m := Sem) fun f => do pure (f.offset, ← sizeOf f.type)).run P w = .ok (fs.map fun f => (f.offset, P.cellsOf f.type)) w
  | [], _ => by simp
  | f :: r, h => by
    obtain ⟨i, hi⟩ := h f (by simp)
    simp only [List.mapM_cons, Sem.run_bind, run_sizeOf w hi, Result.andThen_ok, Sem.run_pure, places_run r (fun g hg => h g (by simp [hg])), List.map_cons]

theorem fill_mono {pl pl' : Nat → Option (Nat × Nat)} (h : ∀ i q, pl i = some q → pl' i = some q) : ∀ (ps : List (Nat × Value)) (cs out : Array Value), Instr.fill pl cs ps = some out → Instr.fill pl' cs ps = some out
  | [], cs, out, hf => hf
  | p :: r, cs, out, hf => by
    simp only [Instr.fill] at hf ⊢
    cases hp : pl p.1 with
    | none => rw [hp] at hf; cases hf
    | some q =>
      rw [hp] at hf
      rw [h _ _ hp]
      obtain ⟨off, n⟩ := q
      simp only at hf ⊢
      split at hf
      · cases hf
      · rename_i hc
        rw [if_neg hc]
        exact fill_mono h r _ out hf

theorem zero_cells {z : Value} (h : ren ι z = z) : (z.cells.toList.map (ren ι)).toArray = z.cells := by
  rw [← ren_cells, h]

theorem build_sound (ok : CxOk cx) {t : TypeId} {parts : Array (Nat × Operand)} {v : Value} (hρ : ∀ p ∈ parts.toList, ∀ v, evalO T p.2 = .ok v → ρ p.2 = ren ι v ∧ vok ι D v)
    (h : buildA cx t (evalParts T parts.toList) = .ok (.val v)) :
    (Instr.build t (parts.map fun (i, x) => (i, ρ x))).run cx.P w = .ok (ren ι v) w ∧ vok ι D v := by
  cases hp : evalParts T parts.toList with
  | er e => rw [hp] at h; cases h
  | ok ps =>
    rw [hp] at h
    obtain ⟨p1, p2⟩ := evalParts_sound _ _ hρ hp
    simp only [buildA] at h
    cases hi : cx.info t with
    | none => rw [hi] at h; cases h
    | some i =>
      rw [hi] at h
      simp only [buildI] at h
      cases hz : zeroI i with
      | none => rw [hz] at h; cases h
      | some z =>
        rw [hz] at h
        simp only at h
        obtain ⟨z1, z2, z3⟩ := zeroI_ok (ι := ι) (D := D) hz
        have hzr := run_zeroI (w := w) (ok.info t i hi) z1
        have hparts : (parts.map fun (x : Nat × Operand) => (x.1, ρ x.2)).toList = ps.map fun p => (p.1, ren ι p.2) := by
          rw [Array.toList_map, p1]
        cases hd : descOf i cx.info with
        | none => rw [hd] at h; cases h
        | some d =>
          rw [hd] at h
          have hu := descOf_sound ok hi hd
          have done : ∀ out, fillA (match d with | .struct fs => placeF cx fs.toList | .array _ e => placeR ((sizeOf? cx e).getD 0) | _ => fun _ => none) ps z.cells.toList = .ok out → v = .agg out.toArray → vok ι D v := by
            intro out ho hv
            obtain ⟨_, _, g3⟩ := fill_sound (ι := ι) (D := D) ps _ out ho
            rw [hv, vok]
            intro u hu
            exact g3 (vok_cells z3) p2 u (by simpa using hu)
          cases d <;> simp only at h <;> try (cases h; done)
          · -- an array
            rename_i len e
            cases hs : sizeOf? cx e with
            | none => rw [hs] at h; cases h
            | some n =>
              rw [hs] at h
              simp only at h
              cases hf : fillA (placeR n) ps z.cells.toList with
              | er e => rw [hf] at h; cases h
              | ok out =>
                rw [hf] at h
                simp only [aggV] at h
                cases h
                refine ⟨?_, done out (by simp only [hs, Option.getD_some]; exact hf) rfl⟩
                obtain ⟨g1, _, _⟩ := fill_sound (ι := ι) (D := D) ps _ out hf
                rw [zero_cells z2] at g1
                simp only [Instr.build, Sem.run_bind, hzr, Result.andThen_ok, run_underlying hu, run_sizeOf' ok hs]
                rw [show (parts.map fun (i, x) => (i, ρ x)).toList = ps.map fun p => (p.1, ren ι p.2) from hparts]
                have g2 : Instr.fill (fun i => some (i * n, n)) z.cells (ps.map fun p => (p.1, ren ι p.2)) = _ := g1
                rw [g2]
                simp [ren]
          · -- a struct
            rename_i fs
            cases hf : fillA (placeF cx fs.toList) ps z.cells.toList with
            | er e => rw [hf] at h; cases h
            | ok out =>
              rw [hf] at h
              simp only [aggV] at h
              cases h
              refine ⟨?_, done out hf rfl⟩
              obtain ⟨g1, _, _⟩ := fill_sound (ι := ι) (D := D) ps _ out hf
              rw [zero_cells z2] at g1
              have hpl := places_run (P := cx.P) (w := w) fs.toList (fun f hf => ok.fields t i fs hi hu f (by simpa using hf))
              have g2 := fill_mono (pl' := fun i => (fs.toList.map fun f => (f.offset, cx.P.cellsOf f.type)).toArray[i]?) (fun i q hq => by
                unfold placeF at hq
                cases hfi : fs.toList[i]? with
                | none => rw [hfi] at hq; cases hq
                | some f =>
                  rw [hfi] at hq
                  simp only at hq
                  cases hs : sizeOf? cx f.type with
                  | none => rw [hs] at hq; cases hq
                  | some n =>
                    rw [hs] at hq
                    cases hq
                    obtain ⟨i', _, hi', rfl⟩ := sizeOf_ok ok hs
                    have hc : cx.P.cellsOf f.type = i'.size := by simp [Program.cellsOf, hi']
                    rw [List.getElem?_toArray, List.getElem?_map, hfi]
                    simp [hc]) _ _ _ g1
              simp only [Instr.build, Sem.run_bind, hzr, Result.andThen_ok, run_underlying hu]
              rw [Array.mapM_eq_mapM_toList]
              simp only [Sem.run_map, hpl, Result.andThen_ok]
              rw [show (parts.map fun (i, x) => (i, ρ x)).toList = ps.map fun p => (p.1, ren ι p.2) from hparts]
              rw [g2]
              simp [ren]

theorem evalL_sound : ∀ (xs : List Operand) (vs : List Value), (∀ x ∈ xs, ∀ v, evalO T x = .ok v → ρ x = ren ι v ∧ vok ι D v) → evalL T xs = .ok vs →
    xs.map ρ = vs.map (ren ι) ∧ ∀ v ∈ vs, vok ι D v
  | [], vs, _, h => by simp only [evalL] at h; cases h; simp
  | x :: r, vs, hρ, h => by
    simp only [evalL] at h
    cases hx : evalO T x with
    | er e => rw [hx] at h; cases h
    | ok v =>
      rw [hx] at h
      simp only at h
      cases hr : evalL T r with
      | er e => rw [hr] at h; cases h
      | ok us =>
        rw [hr] at h
        simp only [consR] at h
        cases h
        obtain ⟨h1, h2⟩ := evalL_sound r us (fun q hq => hρ q (by simp [hq])) hr
        obtain ⟨h3, h4⟩ := hρ x (by simp) v hx
        refine ⟨by simp [h1, h3], fun q hq => ?_⟩
        rcases List.mem_cons.1 hq with rfl | hq
        · exact h4
        · exact h2 q hq

theorem Ops.at {xs : Array Operand} (h : Ops ι D T ρ xs) {x : Operand} (hx : x ∈ xs) {v : Value} (he : evalO T x = .ok v) : ρ x = ren ι v ∧ vok ι D v := h x hx v he

theorem arr_map_ren {xs : Array Operand} {vs : List Value} (h : xs.toList.map ρ = vs.map (ren ι)) : xs.map ρ = (vs.map (ren ι)).toArray := by
  apply Array.ext'
  simp [h]

/-- **WHAT IS LIGHT AND COMES TO A VALUE.** -/
theorem light_val (ok : CxOk cx) (R : Rel ι D σ w) {o : Oper} (hρ : Ops ι D T ρ o.op.operands) {v : Value} (h : light cx o T σ = some (.ok (.val v))) :
    (execOp ρ o).run cx.P w = .ok (.value (ren ι v)) w ∧ vok ι D v := by
  unfold light at h
  cases ho : o.op with
  | move x =>
    rw [ho] at h hρ
    simp only [Option.some.injEq] at h
    obtain ⟨h1, h2⟩ := hρ.at (by simp [Op.operands]) (vv_val h)
    exact ⟨by simp [execOp, ho, h1], h2⟩
  | assign x =>
    rw [ho] at h hρ
    simp only [Option.some.injEq] at h
    obtain ⟨h1, h2⟩ := hρ.at (by simp [Op.operands]) (vv_val h)
    exact ⟨by simp [execOp, ho, h1], h2⟩
  | pick c a b =>
    rw [ho] at h hρ
    simp only [Option.some.injEq, isPick] at h
    split at h
    · rename_i hc
      obtain ⟨h1, h2⟩ := hρ.at (by simp [Op.operands]) (vv_val h)
      have h3 := (hρ.at (by simp [Op.operands]) hc).1
      exact ⟨by simp [execOp, ho, h1, h3, ren, asBool], h2⟩
    · rename_i hc
      obtain ⟨h1, h2⟩ := hρ.at (by simp [Op.operands]) (vv_val h)
      have h3 := (hρ.at (by simp [Op.operands]) hc).1
      exact ⟨by simp [execOp, ho, h1, h3, ren, asBool], h2⟩
    · cases h
  | build t parts =>
    rw [ho] at h hρ
    simp only [Option.some.injEq] at h
    obtain ⟨h1, h2⟩ := build_sound (w := w) (ι := ι) (D := D) (ρ := ρ) ok (fun p hp v hv => hρ.at (by simp [Op.operands]; exact ⟨p.1, by simpa using hp⟩) hv) h
    exact ⟨by simp only [execOp, ho]; exact run_v h1, h2⟩
  | load t a =>
    rw [ho] at h hρ
    simp only [Option.some.injEq, loadL] at h
    cases ha : evalO T a with
    | er e => rw [ha] at h; cases h
    | ok p =>
      rw [ha] at h
      obtain ⟨h1, h2⟩ := load_sound ok R (vv_val h)
      refine ⟨?_, h2⟩
      simp only [execOp, ho]
      rw [(hρ.at (by simp [Op.operands]) ha).1]
      exact run_v h1
  | nilCheck x =>
    rw [ho] at h hρ
    simp only [Option.some.injEq, nilCheckA] at h
    split at h <;> first
      | (cases h; done)
      | (rename_i hx
         cases h
         obtain ⟨h1, h2⟩ := hρ.at (by simp [Op.operands]) hx
         refine ⟨?_, h2⟩
         simp only [execOp, ho]
         rw [h1]
         first | (simp [ren]; done) | (simp [ren, renF]; done) | (rename_i r; cases r <;> simp [ren]; done) | (rename_i a n c; cases a <;> simp [ren]; done))
  | binOp op t x y yt =>
    rw [ho] at h
    simp only [Option.some.injEq] at h
    exact bin_sound ok ho hρ h
  | unOp op t x =>
    rw [ho] at h
    simp only [Option.some.injEq] at h
    exact un_sound ho hρ h
  | index t x i =>
    rw [ho] at h
    simp only [Option.some.injEq] at h
    exact index_str_sound ok ho hρ h
  | convert s d x =>
    rw [ho] at h
    simp only [Option.some.injEq] at h
    exact conv_sound ok ho hρ h
  | makeInterface t x =>
    rw [ho] at h hρ
    simp only [Option.some.injEq, ifaceA] at h
    cases hu : cx.und t with
    | none => rw [hu] at h; cases h
    | some d =>
      rw [hu] at h
      have hu' := und_sound ok hu
      cases hx : evalO T x with
      | er e => rw [hx] at h; cases d <;> cases h
      | ok u =>
        rw [hx] at h
        obtain ⟨h1, h2⟩ := hρ.at (by simp [Op.operands]) hx
        cases d <;> simp only at h <;> first
          | (cases h; done)
          | (cases h
             refine ⟨?_, by rw [vok]; exact h2⟩
             simp only [execOp, ho]
             rw [h1]
             refine run_v ?_
             simp [Instr.makeInterface, run_underlying hu', ren])
  | makeFunc fn first captured =>
    rw [ho] at h hρ
    simp only [Option.some.injEq, funcA] at h
    cases fn <;> simp only at h <;> try (cases h; done)
    rename_i f
    simp only [funcV] at h
    cases h1 : evalL T first.toList with
    | er e => rw [h1] at h; cases h
    | ok xs =>
      rw [h1] at h
      simp only at h
      cases h2 : evalL T captured.toList with
      | er e => rw [h2] at h; cases h
      | ok ys =>
        rw [h2] at h
        simp only at h
        cases h
        obtain ⟨a1, a2⟩ := evalL_sound (ρ := ρ) _ _ (fun x hx v hv => hρ.at (by simp [Op.operands]; exact .inl (by simpa using hx)) hv) h1
        obtain ⟨b1, b2⟩ := evalL_sound (ρ := ρ) _ _ (fun x hx v hv => hρ.at (by simp [Op.operands]; exact .inr (by simpa using hx)) hv) h2
        refine ⟨?_, ?_⟩
        · simp only [execOp, ho, arr_map_ren a1, arr_map_ren b1]
          refine run_v ?_
          simp [Instr.makeFunc, ren, renF]
        · rw [vok]
          exact ⟨trivial, fun u hu => a2 u (by simpa using hu), fun u hu => b2 u (by simpa using hu)⟩
  | slice t x lo hi mx =>
    rw [ho] at h hρ
    simp only [Option.some.injEq, sliceL] at h
    have hl : ∀ z ∈ lo, ∀ v, evalO T z = .ok v → ρ z = ren ι v := fun z hz v hv => (hρ.at (by simp at hz; subst hz; simp [Op.operands]) hv).1
    have hh : ∀ z ∈ hi, ∀ v, evalO T z = .ok v → ρ z = ren ι v := fun z hz v hv => (hρ.at (by simp at hz; subst hz; simp [Op.operands]) hv).1
    have hm : ∀ z ∈ mx, ∀ v, evalO T z = .ok v → ρ z = ren ι v := fun z hz v hv => (hρ.at (by simp at hz; subst hz; simp [Op.operands]) hv).1
    split at h
    · rename_i s hx
      obtain ⟨h1, h2⟩ := hρ.at (by simp [Op.operands]) hx
      obtain ⟨h3, h4⟩ := sliceT_sound (w := w) (D := D) ok hl hh h
      refine ⟨?_, h4⟩
      simp only [execOp, ho]
      rw [h1]
      simp only [ren]
      exact run_v h3
    · rename_i a len esz hx
      obtain ⟨h1, h2⟩ := hρ.at (by simp [Op.operands]) hx
      obtain ⟨h3, h4⟩ := slice_sound (w := w) (D := D) ok h2 hl hh hm h
      refine ⟨?_, h4⟩
      simp only [execOp, ho]
      rw [h1]
      exact run_v h3
    · rename_i a hx
      obtain ⟨h1, h2⟩ := hρ.at (by simp [Op.operands]) hx
      obtain ⟨h3, h4⟩ := sliceArr_sound (w := w) (D := D) ok R h2 hl hh h
      refine ⟨?_, h4⟩
      simp only [execOp, ho]
      rw [h1]
      exact run_v h3
    · cases h
    · cases h
  | fieldAddr s x f =>
    rw [ho] at h hρ
    simp only [Option.some.injEq, fieldAddrA] at h
    split at h
    · rename_i b off hx
      obtain ⟨h1, h2⟩ := hρ.at (by simp [Op.operands]) hx
      rw [vok] at h2
      obtain ⟨h3, h4⟩ := fieldAddr_sound (w := w) (ι := ι) (D := D) ok h2.1 (vv_val h)
      refine ⟨?_, h4⟩
      simp only [execOp, ho]
      rw [h1]
      exact run_v h3
    · cases h
    · cases h
  | field s x f =>
    rw [ho] at h hρ
    simp only [Option.some.injEq, fieldA] at h
    split at h
    · rename_i cs hx
      obtain ⟨h1, h2⟩ := hρ.at (by simp [Op.operands]) hx
      obtain ⟨h3, h4⟩ := field_sound (w := w) ok h2 (vv_val h)
      refine ⟨?_, h4⟩
      simp only [execOp, ho]
      rw [h1]
      exact run_v h3
    · cases h
    · cases h
  | indexAddr t x i =>
    rw [ho] at h hρ
    simp only [Option.some.injEq, idxL] at h
    cases hx : evalO T x with
    | er e => rw [hx] at h; cases h
    | ok p =>
      rw [hx] at h
      simp only at h
      split at h
      · rename_i k n hi
        obtain ⟨h1, h2⟩ := hρ.at (by simp [Op.operands]) hx
        obtain ⟨h5, _⟩ := hρ.at (by simp [Op.operands]) hi
        obtain ⟨h3, h4⟩ := index_sound (w := w) (k := k) ok h2 (vv_val h)
        refine ⟨?_, h4⟩
        simp only [execOp, ho]
        rw [h1, h5]
        simp only [ren]
        exact run_v h3
      · cases h
      · cases h
  | lookup t m k c =>
    rw [ho] at h hρ
    simp only [Option.some.injEq, lookL] at h
    cases hm : evalO T m with
    | er e => rw [hm] at h; cases h
    | ok mv =>
      rw [hm] at h
      simp only at h
      cases hk : evalO T k with
      | er e => rw [hk] at h; cases h
      | ok kv =>
        rw [hk] at h
        obtain ⟨h3, h4⟩ := lookup_sound ok R (vv_val h)
        refine ⟨?_, h4⟩
        simp only [execOp, ho]
        rw [(hρ.at (by simp [Op.operands]) hm).1, (hρ.at (by simp [Op.operands]) hk).1]
        exact run_v h3
  | typeAssert x xt at_ c =>
    rw [ho] at h hρ
    simp only [Option.some.injEq, assertL] at h
    cases hx : evalO T x with
    | er e => rw [hx] at h; cases h
    | ok p =>
      rw [hx] at h
      obtain ⟨h1, h2⟩ := hρ.at (by simp [Op.operands]) hx
      obtain ⟨h3, h4⟩ := assert_sound (w := w) (xt := xt) ok h2 (vv_val h)
      refine ⟨?_, h4⟩
      simp only [execOp, ho]
      rw [h1]
      exact run_v h3
  | extract x i =>
    rw [ho] at h hρ
    simp only [Option.some.injEq, extractA] at h
    split at h
    · rename_i vs hx
      obtain ⟨h1, h2⟩ := hρ.at (by simp [Op.operands]) hx
      have hv := oneR_ok (vv_val h)
      rw [vok] at h2
      have hv' : vs[i]? = some v := by simpa using hv
      refine ⟨?_, h2 v (Array.mem_of_getElem? hv')⟩
      simp only [execOp, ho]
      rw [h1]
      refine run_v ?_
      simp [Instr.extract, ren, hv']
    · cases h
    · cases h
  | call c =>
    rw [ho] at h
    simp only [lightCall] at h
    split at h
    · rename_i hc
      simp only [Option.some.injEq, lenL] at h
      split at h
      · rename_i x hx
        split at h
        · rename_i t ht
          obtain ⟨a1, a2⟩ := evalL_sound (ρ := ρ) (ι := ι) (D := D) _ _ (fun x hx v hv => hρ.at (by rw [ho]; simp [Op.operands, Call.operands, hc]; simpa using hx) hv) hx
          obtain ⟨h3, h4⟩ := len_sound (ty := o.type) ok R (vv_val h)
          refine ⟨?_, h4⟩
          have ha := arr_map_ren a1
          have hts : c.argTypes = #[t] := by apply Array.ext'; simpa using ht
          simp only [execOp, ho, resolve, hc, Sem.run_bind, Sem.run_pure, Result.andThen_ok, invoke, builtin, ha, hts, List.map_cons, List.map_nil, h3]
        · cases h
      · cases h
      · cases h
    · simp only [Option.some.injEq] at h
      exact byModel_sound (by rw [ho]; simp) hρ h
    · simp only [Option.some.injEq] at h
      exact byModel_sound (by rw [ho]; simp) hρ h
    · cases h
  | alloc t => rw [ho] at h; simp only [Option.some.injEq, allocA] at h; split at h <;> cases h
  | box t x => rw [ho] at h; simp only [Option.some.injEq, boxA] at h; split at h <;> cases h
  | buildSlice t len parts =>
    rw [ho] at h
    simp only [Option.some.injEq, buildSliceA, buildSliceI, newR] at h
    (repeat' split at h) <;> cases h
  | makeMap t r =>
    rw [ho] at h
    simp only [Option.some.injEq, makeMapA] at h
    (repeat' split at h) <;> cases h
  | makeSlice t l c =>
    rw [ho] at h
    simp only [Option.some.injEq, makeSliceA, makeSliceI] at h
    (repeat' split at h) <;> cases h
  | _ => rw [ho] at h; cases h

end
end
end Go.VI
