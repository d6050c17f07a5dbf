/-
  VI: one operation, and operations one behind the other.
-/
import Derived.Test.YtkfdjlhjeclcbaaGreatDoorViSound
namespace Go.VI
open Go
noncomputable section

section
variable {cx : Cx} {rec : Rec} {ι ι' : Emb} {D D' : Nat → Prop} {σ : Mem} {w w' : World} {a : Ac} {ac : Act} {rd : Option Nat} {o : Oper} {next : Act → World → Prop} {Q : Exit → Act → World → Prop}

/-- An operation that isn't a deferral, by its run. -/
theorem op_value (hdf : ∀ c, o.op ≠ .defer c) {v : Value} (h : (execOp ac.eval o).run cx.P w = .ok (.value v) w') (hn : next (ac.put o.dst v) w') : o.wpIn (fenceOf ι rd) 0 cx.P ac w next Q := by
  refine ⟨fun f _ => fenceOf_fn _ _ _, ?_⟩
  rw [Oper.semAt_eq _ _ _ hdf, h]
  exact hn

theorem op_skip (hdf : ∀ c, o.op ≠ .defer c) (h : (execOp ac.eval o).run cx.P w = .ok .skip w') (hn : next (ac.put o.dst undef) w') : o.wpIn (fenceOf ι rd) 0 cx.P ac w next Q := by
  refine ⟨fun f _ => fenceOf_fn _ _ _, ?_⟩
  rw [Oper.semAt_eq _ _ _ hdf, h]
  exact hn

theorem call_sound (S : Sound cx rec) (ok : CxOk cx) (R : Rel ι D σ w) {c : Call} (ho : o.op = .call c) (hρ : Ops ι D a.T ac.eval o.op.operands) (hd : ac.defers = a.ds.map (renD ι)) (hds : ∀ d ∈ a.ds, okD ι D d)
    (A : Acts cx ι D σ w a ac o.dst (doCall cx rec a o.dst σ c) next Q) : o.wpIn (fenceOf ι rd) 0 cx.P ac w next Q := by
  have hdf : ∀ c', o.op ≠ .defer c' := fun c' h => by rw [ho] at h; cases h
  have hex : execOp ac.eval o = (do let d ← resolve ac.eval c o.type; invoke d.target d.args) := by simp only [execOp, ho]
  have hne := A.ne
  rw [ho] at hρ
  unfold doCall at A hne
  split at A
  · -- a value is called
    rename_i f hc
    simp only [hc] at hne
    cases hw : whom a.T f c.args.toList with
    | er e => rw [hw] at hne; exact (hne _ rfl).elim
    | ok m =>
      rw [hw] at hne A
      obtain ⟨fn, first, captured, vs, h1, h2, h3⟩ := whom_ok hw
      obtain ⟨e1, e2⟩ := hρ.at (by simp [Op.operands, Call.operands, hc]) h1
      obtain ⟨e3, e4⟩ := evalL_sound (ρ := ac.eval) (ι := ι) (D := D) _ _ (fun x hx v hv => hρ.at (by simp [Op.operands, Call.operands, hc]; exact .inr (by simpa using hx)) hv) h2
      rw [vok] at e2
      obtain ⟨_, e5, e6⟩ := e2
      have hres : (resolve ac.eval c o.type).run cx.P w = .ok { target := .fn (renF ι fn) (captured.map (ren ι)), args := first.map (ren ι) ++ (vs.map (ren ι)).toArray } w := by
        simp only [resolve, hc, e1, ren, Deferred.ofValue, Sem.run_pure]
        rw [arr_map_ren e3]
      rcases h3 with ⟨g, rfl, rfl⟩ | ⟨l, rfl, rfl⟩
      · have hargs : ∀ v ∈ first.toList ++ vs ++ captured.toList, vok ι D v := by
          intro v hv
          simp only [List.mem_append] at hv
          rcases hv with (hv | hv) | hv
          · exact e5 v (by simpa using hv)
          · exact e4 v hv
          · exact e6 v (by simpa using hv)
        have hargs2 : (first.map (ren ι) ++ (vs.map (ren ι)).toArray ++ captured.map (ren ι)) = ((first.toList ++ vs ++ captured.toList).map (ren ι)).toArray := by
          apply Array.ext'
          simp
        simp only [callW] at hne A
        cases hfn : cx.fn g with
        | none => rw [hfn] at hne; exact (hne _ rfl).elim
        | some fnn =>
          rw [hfn] at hne A
          have hP := ok.fn g fnn hfn
          have hnm := ok.names g fnn hfn
          simp only [callF] at hne A
          cases hb : fnn.body with
          | some body =>
            rw [hb] at hne A
            simp only [callB] at hne A
            cases hrec : rec (.call g (first.toList ++ vs ++ captured.toList)) σ with
            | er e => rw [hrec] at hne; exact (hne _ rfl).elim
            | ok out =>
              rw [hrec] at hne A
              have hS := S _ _ _ hrec ι D w R hargs
              refine ⟨fun f _ => fenceOf_fn _ _ _, ?_⟩
              rw [Oper.semAt_eq _ _ _ hdf, hex, Sem.run_bind, hres]
              simp only [Result.andThen_ok, renF, invoke, hargs2, run_call_body hP hnm hb]
              rw [Oper.uponIn_enter]
              refine ⟨fun h => (by rw [fenceOf_depth] at h; cases h), ?_⟩
              have hS' : CallsIn (fenceOf ι rd) (0 - 1) cx.P g ((first.toList ++ vs ++ captured.toList).map (ren ι)).toArray w (PostCall ι D σ w out) := by
                cases rd <;> exact hS
              refine CallsIn.mono hS' ?_
              rintro e' w'' ⟨e, σ', ι', D', rfl, R', g', x'⟩
              simp only [backC] at hne A
              cases e with
              | returned v =>
                obtain ⟨x1, rfl⟩ := x'
                exact A.val hd hds rfl R' g' x1
              | panicked ch =>
                obtain ⟨x1, rfl⟩ := x'
                exact A.pa _ _ _ _ _ rfl R' g' x1
              | outgrown => exact x'.elim
          | none =>
            rw [hb] at hne A
            simp only [callB] at hne A
            obtain ⟨hm, hroom⟩ := room_ok hne
            rw [hroom] at hne A
            obtain ⟨v, σ', hx, hback⟩ := back_ok hne
            rw [hback] at A
            have hrun : ∃ ι' D' w', (callFunc g ((first.toList ++ vs ++ captured.toList).map (ren ι)).toArray).run cx.P w = .ok (.value (ren ι' v)) w' ∧ Rel ι' D' σ' w' ∧ Go1 ι D σ w ι' D' σ' w' ∧ vok ι' D' v := by
              unfold extA at hx
              split at hx
              · rename_i hname
                obtain ⟨x1, x2⟩ := ok.clone g fnn hfn hb hname
                obtain ⟨ι', D', w', k1, k2, k3, k4⟩ := clone_sound (cx := cx) R hm hargs hx
                exact ⟨ι', D', w', run_call_ext hP hnm hb x1 x2 k1, k2, k3, k4⟩
              · split at hx
                · rename_i hname
                  obtain ⟨x1, x2⟩ := ok.index g fnn hfn hb hname
                  obtain ⟨rfl, k1, k4⟩ := index_sound' (cx := cx) (ι := ι) (D := D) (w := w) hx
                  exact ⟨ι, D, w, run_call_ext hP hnm hb x1 x2 k1, R, Go1.refl _ _ _ _, k4⟩
                · cases hx
            obtain ⟨ι', D', w', k1, k2, k3, k4⟩ := hrun
            refine op_value hdf ?_ (A.val hd hds rfl k2 k3 k4)
            rw [hex, Sem.run_bind, hres]
            simp only [Result.andThen_ok, renF, invoke, hargs2, k1]
      · have hargs : ∀ v ∈ first.toList ++ vs, vok ι D v := by
          intro v hv
          simp only [List.mem_append] at hv
          rcases hv with hv | hv
          · exact e5 v (by simpa using hv)
          · exact e4 v hv
        have hargs2 : (first.map (ren ι) ++ (vs.map (ren ι)).toArray) = ((first.toList ++ vs).map (ren ι)).toArray := by
          apply Array.ext'
          simp
        simp only [callW] at hne A
        obtain ⟨v, σ', hx, hback⟩ := back_ok hne
        rw [hback] at A
        obtain ⟨fn', tmps, asg, body, k1, k2⟩ := round_sound (rd := rd) S R hargs hx
        refine ⟨fun f _ => fenceOf_fn _ _ _, ?_⟩
        rw [Oper.semAt_eq _ _ _ hdf, hex, Sem.run_bind, hres]
        simp only [Result.andThen_ok, renF, invoke, hargs2, k1]
        rw [Oper.uponIn_round]
        refine ⟨fun h => (by rw [fenceOf_depth] at h; cases h), ?_⟩
        refine RoundIn.mono k2 ?_
        rintro e' w'' ⟨ι', D', R', g', x1, rfl⟩
        exact A.val hd hds rfl R' g' x1
  · -- append
    rename_i hc
    simp only [hc, appE] at hne A
    cases hl : evalL a.T c.args.toList with
    | er e => rw [hl] at hne; exact (hne _ rfl).elim
    | ok vs =>
      rw [hl] at A
      split at A
      · rename_i s x hvs
        split at A
        · rename_i t u hts
          have hne := A.ne
          obtain ⟨hm, hroom⟩ := room_ok hne
          rw [hroom] at hne A
          obtain ⟨v, σ', hx, hback⟩ := back_ok hne
          rw [hback] at A
          obtain ⟨e3, e4⟩ := evalL_sound (ρ := ac.eval) (ι := ι) (D := D) _ _ (fun x hx v hv => hρ.at (by simp [Op.operands, Call.operands, hc]; simpa using hx) hv) hl
          cases hvs
          obtain ⟨ι', D', w', k1, k2, k3, k4⟩ := append_sound (ty := o.type) ok R hm (e4 s (by simp)) (e4 x (by simp)) hx
          refine op_value hdf ?_ (A.val hd hds rfl k2 k3 k4)
          have ha := arr_map_ren e3
          have hts' : c.argTypes = #[t, u] := by apply Array.ext'; simpa using hts
          rw [hex, Sem.run_bind]
          simp only [resolve, hc, Sem.run_pure, Result.andThen_ok, invoke, builtin, ha, hts', List.map_cons, List.map_nil]
          simp only [Sem.run_bind, k1, Result.andThen_ok, Sem.run_pure]
        · rename_i hts
          exact (A.ne _ rfl).elim
      · exact (A.ne _ rfl).elim
      · exact (A.ne _ rfl).elim
  · exact (A.ne _ rfl).elim

theorem run_u {P : Program} {s : Sem Unit} (h : s.run P w = .ok () w') : (do s; pure Next.skip : Sem Next).run P w = .ok .skip w' := by
  rw [Sem.run_bind, h]; rfl

/-- **WHAT ACTS.** -/
theorem heavy_sound (S : Sound cx rec) (ok : CxOk cx) (R : Rel ι D σ w) (hρ : Ops ι D a.T ac.eval o.op.operands) (hd : ac.defers = a.ds.map (renD ι)) (hds : ∀ d ∈ a.ds, okD ι D d)
    (A : Acts cx ι D σ w a ac o.dst (heavy cx rec rd o a σ) next Q) : o.wpIn (fenceOf ι rd) 0 cx.P ac w next Q := by
  unfold heavy at A
  split at A
  · rename_i c ho
    exact call_sound S ok R ho hρ hd hds A
  · rename_i t ad x ho
    have hdf : ∀ c', o.op ≠ .defer c' := fun c' h => by rw [ho] at h; cases h
    rw [ho] at hρ
    have hne := A.ne
    unfold storeE at hne A
    cases h1 : evalO a.T ad with
    | er e => rw [h1] at hne; exact (hne _ rfl).elim
    | ok av =>
      rw [h1] at hne A
      cases h2 : evalO a.T x with
      | er e => rw [h2] at hne; exact (hne _ rfl).elim
      | ok xv =>
        rw [h2] at hne A
        simp only at hne A
        obtain ⟨σ', h3, h4⟩ := memR_ok hne
        rw [h4] at A
        obtain ⟨e1, e2⟩ := hρ.at (by simp [Op.operands]) h1
        obtain ⟨e3, e4⟩ := hρ.at (by simp [Op.operands]) h2
        obtain ⟨w', k1, k2, k3⟩ := store_sound ok R e4 h3
        refine op_skip hdf (w' := w') ?_ ?_
        · simp only [execOp, ho]
          rw [e1, e3]
          exact run_u k1
        · have := A.val hd hds rfl k2 k3 vok_undef
          rwa [ren_undef] at this
  · rename_i t m k x ho
    have hdf : ∀ c', o.op ≠ .defer c' := fun c' h => by rw [ho] at h; cases h
    rw [ho] at hρ
    have hne := A.ne
    unfold mapE at hne A
    cases h1 : evalO a.T m with
    | er e => rw [h1] at hne; exact (hne _ rfl).elim
    | ok mv =>
      rw [h1] at hne A
      cases h2 : evalO a.T k with
      | er e => rw [h2] at hne; exact (hne _ rfl).elim
      | ok kv =>
        rw [h2] at hne A
        cases h5 : evalO a.T x with
        | er e => rw [h5] at hne; exact (hne _ rfl).elim
        | ok xv =>
          rw [h5] at hne A
          simp only at hne A
          obtain ⟨σ', h3, h4⟩ := memR_ok hne
          rw [h4] at A
          obtain ⟨e1, e2⟩ := hρ.at (by simp [Op.operands]) h1
          obtain ⟨e3, e4⟩ := hρ.at (by simp [Op.operands]) h2
          obtain ⟨e5, e6⟩ := hρ.at (by simp [Op.operands]) h5
          obtain ⟨w', k1, k2, k3⟩ := mapSet_sound ok R e6 h3
          refine op_skip hdf (w' := w') ?_ ?_
          · simp only [execOp, ho]
            rw [e1, e3, e5]
            exact run_u k1
          · have := A.val hd hds rfl k2 k3 vok_undef
            rwa [ren_undef] at this
  · rename_i t m k x ho
    have hdf : ∀ c', o.op ≠ .defer c' := fun c' h => by rw [ho] at h; cases h
    rw [ho] at hρ
    have hne := A.ne
    unfold mapE at hne A
    cases h1 : evalO a.T m with
    | er e => rw [h1] at hne; exact (hne _ rfl).elim
    | ok mv =>
      rw [h1] at hne A
      cases h2 : evalO a.T k with
      | er e => rw [h2] at hne; exact (hne _ rfl).elim
      | ok kv =>
        rw [h2] at hne A
        cases h5 : evalO a.T x with
        | er e => rw [h5] at hne; exact (hne _ rfl).elim
        | ok xv =>
          rw [h5] at hne A
          simp only at hne A
          obtain ⟨σ', h3, h4⟩ := memR_ok hne
          rw [h4] at A
          obtain ⟨e1, e2⟩ := hρ.at (by simp [Op.operands]) h1
          obtain ⟨e3, e4⟩ := hρ.at (by simp [Op.operands]) h2
          obtain ⟨e5, e6⟩ := hρ.at (by simp [Op.operands]) h5
          obtain ⟨w', k1, k2, k3⟩ := mapSet_sound ok R e6 h3
          refine op_skip hdf (w' := w') ?_ ?_
          · simp only [execOp, ho]
            rw [e1, e3, e5]
            exact run_u k1
          · have := A.val hd hds rfl k2 k3 vok_undef
            rwa [ren_undef] at this
  · rename_i c ho
    rw [ho] at hρ
    unfold deferE at A
    split at A
    · exact (A.ne _ rfl).elim
    · split at A
      · rename_i f hc
        have hne := A.ne
        unfold deferV at hne A
        split at A
        · rename_i fn first captured hf
          rw [hf] at hne
          cases hl : evalL a.T c.args.toList with
          | er e => rw [hl] at hne; exact (hne _ rfl).elim
          | ok vs =>
            rw [hl] at hne A
            simp only at hne A
            obtain ⟨e1, e2⟩ := hρ.at (by simp [Op.operands, Call.operands, hc]) hf
            obtain ⟨e3, e4⟩ := evalL_sound (ρ := ac.eval) (ι := ι) (D := D) _ _ (fun x hx v hv => hρ.at (by simp [Op.operands, Call.operands, hc]; exact .inr (by simpa using hx)) hv) hl
            rw [vok] at e2
            obtain ⟨e0, e5, e6⟩ := e2
            refine ⟨fun f _ => fenceOf_fn _ _ _, ?_⟩
            show o.uponIn Fence.wide 0 cx.P ac next Q ((Oper.semAt none ac.eval o).run cx.P w)
            have hd0 : renD ι { target := .fn fn captured, args := first ++ vs.toArray } = { target := .fn (renF ι fn) (captured.map (ren ι)), args := first.map (ren ι) ++ (vs.map (ren ι)).toArray } := by
              simp only [renD, Deferred.mk.injEq, true_and]
              apply Array.ext'
              simp
            have key := A.go undef _ σ ι D w rfl R (Go1.refl _ _ _ _) vok_undef (fun d hd' => by
              rcases List.mem_cons.1 hd' with rfl | hd'
              · refine ⟨⟨e0, e6⟩, fun v hv => ?_⟩
                rcases Array.mem_append.1 hv with hv | hv
                · exact e5 v hv
                · exact e4 v (by simpa using hv)
              · exact hds d hd')
            rw [List.map_cons, hd0, ← hd, ren_undef] at key
            rw [Oper.semAt_none]
            simp only [execOp, ho, resolve, hc, e1, ren, Deferred.ofValue, Sem.run_bind, Sem.run_pure, Result.andThen_ok]
            rw [arr_map_ren e3, Oper.uponIn_defer]
            exact key
        · rename_i hx
          exact (A.ne _ rfl).elim
        · exact (A.ne _ rfl).elim
      · exact (A.ne _ rfl).elim
  · rename_i x ho
    have hdf : ∀ c', o.op ≠ .defer c' := fun c' h => by rw [ho] at h; cases h
    rw [ho] at hρ
    unfold panicE at A
    split at A
    · rename_i t v hx
      obtain ⟨e1, e2⟩ := hρ.at (by simp [Op.operands]) hx
      refine ⟨fun f _ => fenceOf_fn _ _ _, ?_⟩
      rw [Oper.semAt_eq _ _ _ hdf]
      have hrun : (execOp ac.eval o).run cx.P w = .halt (.panic (ren ι (.iface t v))) w := by
        simp only [execOp, ho]
        rw [e1]
        simp [ren, Instr.panic]
      rw [hrun, Oper.uponIn_panic]
      exact A.pa _ _ _ _ _ rfl R (Go1.refl _ _ _ _) (fun p hp => by simp only [List.mem_singleton] at hp; subst hp; exact e2)
    · exact (A.ne _ rfl).elim
    · exact (A.ne _ rfl).elim
  · exact (A.ne _ rfl).elim

/-! ### One operation -/

/-- Is it wanted? As the machine has it. -/
theorem wanted_sound {ops : Array Oper} {T : Tr Value} {tmps : Array Value} (h : ∀ j want t v, o.guard = some (j, want) → dstOf ops.toList[j]? = some t → T.get t = some v → tmps[t]? = some (ren ι v)) {b : Bool} (hb : wantedA ops.toList o T = some b) :
    Region.wanted o (yielded ops tmps) = b := by
  unfold wantedA at hb
  unfold Region.wanted
  cases hg : o.guard with
  | none => rw [hg] at hb; cases hb; rfl
  | some p =>
    obtain ⟨j, want⟩ := p
    rw [hg] at hb
    simp only at hb ⊢
    cases hd : dstOf ops.toList[j]? with
    | none => rw [hd] at hb; cases hb
    | some t =>
      rw [hd] at hb
      simp only [guardT] at hb
      cases hv : T.get t with
      | none => rw [hv] at hb; cases hb
      | some v =>
        rw [hv] at hb
        simp only [guardV] at hb
        cases hb
        have ht := h j want t v hg hd hv
        have hy : (ops[j]?).bind (·.dst) = some t := by
          unfold dstOf at hd
          rw [Array.getElem?_toList] at hd
          cases ho : ops[j]? with
          | none => rw [ho] at hd; cases hd
          | some o' => rw [ho] at hd; exact hd
        simp only [yielded, hy, Option.bind_some, ht]
        cases v with
        | bool b => simp [ren, isWant]
        | pointer a => cases a <;> simp [ren, isWant]
        | slice a _ _ => cases a <;> simp [ren, isWant]
        | map a => cases a <;> simp [ren, isWant]
        | _ => simp [ren, isWant]

theorem wanted_all {ops : Array Oper} (t : TR ι D a.T a.nt ac.tmps) {b : Bool} (hb : wantedA ops.toList o a.T = some b) : Region.wanted o (yielded ops ac.tmps) = b :=
  wanted_sound (ι := ι) (fun _ _ k v _ _ hv => (t.all k v hv).1) hb

theorem fin_go {dst : Option Tmp} {v : Value} {r : Ho} (h : fin a dst v σ = r) (hne : ∀ why, r ≠ .er why) : ∃ a', r = .go a' σ ∧ a.put dst v = .ok a' := by
  unfold fin goR at h
  cases hp : a.put dst v with
  | ok a' => rw [hp] at h; exact ⟨a', h.symm, rfl⟩
  | er why => rw [hp] at h; exact (hne why h.symm).elim

theorem ops_all (g : Globs ι D) (t : TR ι D a.T a.nt ac.tmps) (xs : Array Operand) : Ops ι D a.T ac.eval xs := fun _ _ _ hv => evalO_sound g t hv

/-- What is light, in a sequence. -/
theorem light_sound (ok : CxOk cx) (R : Rel ι D σ w) (hρ : Ops ι D a.T ac.eval o.op.operands) {l : Rs Li} (hl : light cx o a.T σ = some l) (hne : ∀ why, doLight a o.dst σ l ≠ .er why) :
    ∃ v σ' ι' D' w', doLight a o.dst σ l = fin a o.dst v σ' ∧ (execOp ac.eval o).run cx.P w = .ok (.value (ren ι' v)) w' ∧ Rel ι' D' σ' w' ∧ Go1 ι D σ w ι' D' σ' w' ∧ vok ι' D' v := by
  unfold doLight at hne ⊢
  cases l with
  | er e => exact (hne _ rfl).elim
  | ok l =>
    simp only at hne ⊢
    unfold applyLi at hne ⊢
    cases l with
    | val v =>
      obtain ⟨h1, h2⟩ := light_val ok R hρ hl
      exact ⟨v, σ, ι, D, w, rfl, h1, R, Go1.refl _ _ _ _, h2⟩
    | new k cs mk =>
      simp only at hne ⊢
      obtain ⟨hm, hroom⟩ := room_ok hne
      obtain ⟨e, v', w', h1, h2, h3⟩ := light_new (ι := ι) (D := D) (w := w) ok hρ hl
      obtain ⟨k1, k2⟩ := new_sound R hm h2
      obtain ⟨m1, m2⟩ := h3 σ.next (upd ι σ.next e) (addD D σ.next) (upd_same _ _)
      exact ⟨mk σ.next, _, _, _, w', hroom, by rw [m1]; exact h1, k1, k2, m2 (.inr rfl)⟩
    | wr b cs f s => exact (light_wr hl).elim

theorem light_defer (hl : light cx o a.T σ ≠ none) (c : Call) : o.op ≠ .defer c := by
  intro h
  unfold light at hl
  rw [h] at hl
  exact hl rfl

/-- **ONE OPERATION IN A SEQUENCE.** -/
theorem act_sound (S : Sound cx rec) (ok : CxOk cx) (R : Rel ι D σ w) (AA : AR ι D a ac) (A : Acts cx ι D σ w a ac o.dst (act cx rec rd o a σ (light cx o a.T σ)) next Q) : o.wpIn (fenceOf ι rd) 0 cx.P ac w next Q := by
  have hρ := ops_all R.glob AA.t o.op.operands
  cases hl : light cx o a.T σ with
  | none =>
    rw [hl] at A
    exact heavy_sound S ok R hρ AA.d AA.o A
  | some l =>
    rw [hl] at A
    simp only [act] at A
    obtain ⟨v, σ', ι', D', w', h1, h2, h3, h4, h5⟩ := light_sound ok R hρ hl A.ne
    exact op_value (light_defer (by rw [hl]; simp)) h2 (A.val AA.d AA.o h1 h3 h4 h5)

/-! ### Operations, one behind the other -/

theorem PostCode.trans {out : Out} {e' : Exit} {ac' : Act} {w'' : World} {σ' : Mem} (g : Go1 ι D σ w ι' D' σ' w') (h : PostCode ι' D' σ' w' out e' ac' w'') : PostCode ι D σ w out e' ac' w'' := by
  obtain ⟨e, a', σ₁, ι₁, D₁, h1, h2, h3, h4, h5⟩ := h
  exact ⟨e, a', σ₁, ι₁, D₁, h1, h2, g.trans h3, h4, h5⟩

/-- The temporaries behind one operation. -/
theorem AR.step (AA : AR ι D a ac) (hx : Ext ι D ι' D') {ds' : List Deferred} {dst : Option Tmp} {v : Value} {a' : Ac} (hv : vok ι' D' v) (hds : ∀ d ∈ ds', okD ι' D' d) (h : ({ a with ds := ds' } : Ac).put dst v = .ok a') :
    AR ι' D' a' (({ ac with defers := ds'.map (renD ι') } : Act).put dst (ren ι' v)) :=
  put_sound (a := { a with ds := ds' }) (ac := { ac with defers := ds'.map (renD ι') }) ⟨AA.t.ext hx, rfl, hds⟩ hv h

theorem seqOps_sound (S : Sound cx rec) (ok : CxOk cx) {ops : Array Oper} : ∀ (l : List Oper) (k : Nat) (a : Ac) (σ : Mem) (out : Out) (ι : Emb) (D : Nat → Prop) (w : World) (ac : Act), ops.toList.drop k = l → k + l.length = ops.size →
    seqOps cx rec rd ops.toList l a σ = .ok out → Rel ι D σ w → AR ι D a ac → okR D rd → (∀ e ac' w', PostCode ι D σ w out e ac' w' → Q e ac' w') →
    wpOpsIn (fenceOf ι rd) 0 cx.P ops Q (List.range' k l.length) ac w
  | [], k, a, σ, out, ι, D, w, ac, _, _, h, R, AA, hr, hQ => by
    simp only [seqOps] at h
    cases h
    exact hQ _ _ _ ⟨_, a, σ, ι, D, rfl, R, Go1.refl _ _ _ _, AA, rfl⟩
  | o :: r, k, a, σ, out, ι, D, w, ac, hdrop, hk, h, R, AA, hr, hQ => by
    have ho : ops[k]? = some o := by
      have := congrArg (fun l => l[0]?) hdrop
      simpa using this
    have hdrop' : ops.toList.drop (k + 1) = r := by
      have := congrArg List.tail hdrop
      simpa using this
    simp only [seqOps] at h
    rw [List.length_cons, List.range'_succ]
    simp only [wpOpsIn, ho]
    cases hw : wantedA ops.toList o a.T with
    | none => rw [hw] at h; simp only [oneOp] at h; cases h
    | some b =>
      rw [wanted_all AA.t hw]
      rw [hw] at h
      cases b with
      | true =>
        simp only [oneOp, if_true] at h ⊢
        refine act_sound S ok R AA ⟨fun v ds' σ' ι' D' w' hf R' g' hv hds => ?_, fun c σ' ι' D' w' hf R' g' hc => ?_, fun why hf => ?_⟩
        · rw [hf] at h
          unfold fin at h
          cases hp : ({ a with ds := ds' } : Ac).put o.dst v with
          | er e => rw [hp] at h; cases h
          | ok a' =>
            rw [hp] at h
            have key := seqOps_sound S ok r (k + 1) a' σ' out ι' D' w' _ hdrop' (by simp only [List.length_cons] at hk; omega) h R' (AA.step g'.ext hv hds hp) (fun l hl => g'.ext.dom _ (hr l hl))
              (fun e ac' w' hp => hQ _ _ _ (hp.trans g'))
            rw [fenceOf_ext g'.ext hr] at key
            exact key
        · rw [hf] at h
          cases h
          exact hQ _ _ _ ⟨_, a, σ', ι', D', rfl, R', g', AA.ext g'.ext, hc, rfl⟩
        · rw [hf] at h; cases h
      | false =>
        simp only [oneOp] at h ⊢
        rw [if_neg Bool.false_ne_true]
        refine ⟨fun f _ => fenceOf_fn _ _ _, ?_⟩
        unfold fin at h
        cases hp : a.put o.dst undef with
        | er e => rw [hp] at h; cases h
        | ok a' =>
          rw [hp] at h
          have hA := put_sound AA (vok_undef (ι := ι) (D := D)) hp
          rw [ren_undef] at hA
          exact seqOps_sound S ok r (k + 1) a' σ out ι D w _ hdrop' (by simp only [List.length_cons] at hk; omega) h R hA hr hQ

end
end
end Go.VI
