/-
  VI: the code's forms.
-/
import Derived.Test.YtkfdjlhjeclcbaaGreatDoorViOps
import Derived.Scope
namespace Go.VI
open Go
noncomputable section

section
variable {F : Fence} {n : Nat} {P : Program} {Q : Exit → Act → World → Prop} {a : Act} {w : World}

theorem stepR_scope {b : Frame} {k : List Item} {cs : List Frame} {c : Code} : Go.step P (lone (b.atR a (.code (.scope c) :: k)) cs w) = .next (lone (b.atR a (.code c :: .inScope c :: k)) cs w) :=
  step_lone_go (by simp [stepG, stepG.exec, Frame.atR])

theorem stepR_inScope {b : Frame} {k : List Item} {cs : List Frame} {c : Code} : Go.step P (lone (b.atR a (.inScope c :: k)) cs w) = .next (lone (b.atR a k) cs w) :=
  step_lone_go (by simp [stepG, stepG.exec, Frame.atR])

/-- A scope out of which no goto leads. -/
theorem wpIn_scope {c : Code} (h : c.wpIn F n P (Exit.noGoto Q) a w) : (Code.scope c).wpIn F n P Q a w := by
  intro b k cs hro hb hr
  have h0 : (lone (b.atR a (.code (.scope c) :: k)) cs w).fenced P F := fenced_calm hb hr rfl
  obtain ⟨e, a₁, w₁, hq, harr⟩ := h b (.inScope c :: k) cs hro hb hr
  cases e with
  | normal => exact ⟨.normal, a₁, w₁, hq, .head h0 stepR_scope (StepsIn.trans harr (.one (fenced_calm hb hr rfl) stepR_inScope))⟩
  | exit id =>
    have hx : exitTo id (.inScope c :: k) = exitTo id k := by simp [exitTo]
    exact ⟨_, a₁, w₁, hq, fun k' hk => .head h0 stepR_scope (harr.1 k' (by rw [hx]; exact hk)),
      fun hr' hk => let ⟨k₁, h1, h2⟩ := harr.2 hr' (by rw [hx]; exact hk); ⟨k₁, h1, .head h0 stepR_scope h2⟩⟩
  | goto l => exact hq.elim
  | ret => exact ⟨_, a₁, w₁, hq, .of_steps (.one h0 stepR_scope) harr⟩
  | panic ch => exact ⟨_, a₁, w₁, hq, .of_steps (.one h0 stepR_scope) harr⟩
  | outgrown => exact ⟨_, a₁, w₁, hq, .of_steps (.one h0 stepR_scope) harr⟩

/-- A loop, by its rounds, counted down. -/
theorem wpIn_loop_count {c : Code} (I : Nat → Act → World → Prop) (h₀ : ∃ j, I j a w)
    (round : ∀ j a w, I j a w → ∃ i, j = i + 1 ∧ c.wpIn F n P (Exit.then (I i) Q) a w) : (Code.loop c).wpIn F n P Q a w := by
  intro b k cs hro hb hr
  have key : ∀ j a w, I j a w → ∃ e a' w', Q e a' w' ∧ ArrivesIn (Machine.fenced P F) P (lone (b.atR a (.code c :: .inLoop c :: k)) cs w) b k cs e a' w' := by
    intro j
    induction j with
    | zero =>
      intro a w hI
      obtain ⟨i, hi, _⟩ := round 0 a w hI
      cases hi
    | succ j ih =>
      intro a w hI
      obtain ⟨i, hi, hw⟩ := round (j + 1) a w hI
      cases hi
      obtain ⟨e, a₁, w₁, hq, harr⟩ := hw b (.inLoop c :: k) cs hro hb hr
      cases e with
      | normal =>
        obtain ⟨e₂, a₂, w₂, hq₂, harr₂⟩ := ih a₁ w₁ hq
        exact ⟨e₂, a₂, w₂, hq₂, .of_steps (StepsIn.trans harr (.one (fenced_calm hb hr rfl) stepR_inLoop)) harr₂⟩
      | exit id => exact ⟨_, a₁, w₁, hq, .pass (x := .inLoop c) rfl (fun _ _ => .inl (by simp)) harr⟩
      | goto l => exact ⟨_, a₁, w₁, hq, .pass (x := .inLoop c) rfl (fun _ _ => .inl (by simp)) harr⟩
      | ret => exact ⟨_, a₁, w₁, hq, .pass (x := .inLoop c) rfl (fun _ _ => .inl (by simp)) harr⟩
      | panic ch => exact ⟨_, a₁, w₁, hq, .pass (x := .inLoop c) rfl (fun _ _ => .inl (by simp)) harr⟩
      | outgrown => exact ⟨_, a₁, w₁, hq, .pass (x := .inLoop c) rfl (fun _ _ => .inl (by simp)) harr⟩
  obtain ⟨j, hj⟩ := h₀
  obtain ⟨e, a', w', hq, harr⟩ := key j a w hj
  exact ⟨e, a', w', hq, .of_steps (.one (fenced_calm hb hr rfl) stepR_loop) harr⟩

end

section
variable {cx : Cx} {rec : Rec} {ι ι' : Emb} {D D' : Nat → Prop} {σ : Mem} {w w' : World} {a : Ac} {ac : Act} {rd : Option Nat} {Q : Exit → Act → World → Prop}

/-- What is said of a piece of code, here. -/
def CodeOk (cx : Cx) (rd : Option Nat) (c : Code) (a : Ac) (σ : Mem) (out : Out) : Prop :=
  ∀ (ι : Emb) (D : Nat → Prop) (w : World), Rel ι D σ w → ∀ ac : Act, AR ι D a ac → okR D rd → c.wpIn (fenceOf ι rd) 0 cx.P (PostCode ι D σ w out) ac w

theorem okR_ext (h : Ext ι D ι' D') (o : okR D rd) : okR D' rd := fun l hl => h.dom _ (o l hl)

/-- Ways out that aren't the code's end go straight on. -/
theorem notNormal {e e' : Exit} (h : XR ι D e e') (hn : e ≠ .normal) : e' ≠ .normal := by
  cases e with
  | normal => exact absurd rfl hn
  | panic c => obtain ⟨_, rfl⟩ := h; simp
  | outgrown => exact h.elim
  | exit id => cases h; simp
  | goto id => cases h; simp
  | ret => cases h; simp

theorem seq_code (S : Sound cx rec) {x y : Code} {out : Out} (h : thenC rec rd y (rec (.code rd x a) σ) = .ok out) : CodeOk cx rd (.seq x y) a σ out := by
  intro ι D w R ac A hr
  cases h1 : rec (.code rd x a) σ with
  | er e => rw [h1] at h; cases h
  | ok o1 =>
    rw [h1] at h
    refine wpIn_seq (wpIn_mono (S _ _ _ h1 ι D w R ac A hr) ?_)
    rintro e₁ ac₁ w₁ ⟨e, a₁, σ₁, ι₁, D₁, rfl, R₁, g₁, A₁, x₁⟩
    by_cases hn : e = .normal
    · subst hn
      cases x₁
      simp only [thenC] at h
      have h2 := S _ _ _ h ι₁ D₁ w₁ R₁ ac₁ A₁ (okR_ext g₁.ext hr)
      rw [fenceOf_ext g₁.ext hr] at h2
      exact wpIn_mono h2 fun _ _ _ hp => hp.trans g₁
    · have hout : out = .code e a₁ σ₁ := by
        cases e <;> simp only [thenC] at h <;> first
          | exact absurd rfl hn
          | (cases h; rfl)
      have hne := notNormal x₁ hn
      have hp : PostCode ι D σ w out e₁ ac₁ w₁ := ⟨e, a₁, σ₁, ι₁, D₁, hout, R₁, g₁, A₁, x₁⟩
      cases e₁ <;> first
        | exact absurd rfl hne
        | exact hp

theorem loop_code (S : Sound cx rec) {x : Code} {out : Out} {n : Nat} (h : loopC rec rd x n a σ = .ok out) : CodeOk cx rd (.loop x) a σ out := by
  intro ι D w R ac A hr
  refine wpIn_loop_count (fun j ac₁ w₁ => ∃ a₁ σ₁ ι₁ D₁, loopC rec rd x j a₁ σ₁ = .ok out ∧ Rel ι₁ D₁ σ₁ w₁ ∧ Go1 ι D σ w ι₁ D₁ σ₁ w₁ ∧ AR ι₁ D₁ a₁ ac₁)
    ⟨n, a, σ, ι, D, h, R, Go1.refl _ _ _ _, A⟩ ?_
  rintro j ac₁ w₁ ⟨a₁, σ₁, ι₁, D₁, h₁, R₁, g₁, A₁⟩
  cases j with
  | zero => cases h₁
  | succ j =>
    refine ⟨j, rfl, ?_⟩
    have h₁ : loopN (loopC rec rd x j) (rec (.code rd x a₁) σ₁) = .ok out := h₁
    cases h2 : rec (.code rd x a₁) σ₁ with
    | er e => rw [h2] at h₁; cases h₁
    | ok o1 =>
      rw [h2] at h₁
      have h3 := S _ _ _ h2 ι₁ D₁ w₁ R₁ ac₁ A₁ (okR_ext g₁.ext hr)
      rw [fenceOf_ext g₁.ext hr] at h3
      refine wpIn_mono h3 ?_
      rintro e₂ ac₂ w₂ ⟨e, a₂, σ₂, ι₂, D₂, rfl, R₂, g₂, A₂, x₂⟩
      by_cases hn : e = .normal
      · subst hn
        cases x₂
        exact ⟨a₂, σ₂, ι₂, D₂, h₁, R₂, g₁.trans g₂, A₂⟩
      · have hout : out = .code e a₂ σ₂ := by
          cases e <;> simp only [loopN] at h₁ <;> first
            | exact absurd rfl hn
            | (cases h₁; rfl)
        have hne := notNormal x₂ hn
        have hp : PostCode ι D σ w out e₂ ac₂ w₂ := ⟨e, a₂, σ₂, ι₂, D₂, hout, R₂, g₁.trans g₂, A₂, x₂⟩
        cases e₂ <;> first
          | exact absurd rfl hne
          | exact hp

theorem cond_code (S : Sound cx rec) {c : Operand} {x y : Code} {out : Out} (h : condC rec rd x y a σ (evalO a.T c) = .ok out) : CodeOk cx rd (.cond c x y) a σ out := by
  intro ι D w R ac A hr
  unfold condC at h
  split at h
  · rename_i hc
    have h1 := (evalO_sound R.glob A.t hc).1
    exact wpIn_cond_true (by simpa [ren] using h1) (S _ _ _ h ι D w R ac A hr)
  · rename_i hc
    have h1 := (evalO_sound R.glob A.t hc).1
    exact wpIn_cond_false (by simpa [ren] using h1) (S _ _ _ h ι D w R ac A hr)
  · cases h

theorem block_code (S : Sound cx rec) {id : Nat} {x : Code} {out : Out} (h : blockC id (rec (.code rd x a) σ) = .ok out) : CodeOk cx rd (.block id x) a σ out := by
  intro ι D w R ac A hr
  cases h1 : rec (.code rd x a) σ with
  | er e => rw [h1] at h; cases h
  | ok o1 =>
    rw [h1] at h
    refine wpIn_block (wpIn_mono (S _ _ _ h1 ι D w R ac A hr) ?_)
    rintro e₁ ac₁ w₁ ⟨e, a₁, σ₁, ι₁, D₁, rfl, R₁, g₁, A₁, x₁⟩
    cases e with
    | exit id' =>
      cases x₁
      simp only [blockC, outOf] at h
      show (if id' = id then _ else _)
      split at h
      · rename_i hb
        cases h
        rw [if_pos (beq_eq hb)]
        exact ⟨.normal, a₁, σ₁, ι₁, D₁, rfl, R₁, g₁, A₁, rfl⟩
      · rename_i hb
        cases h
        rw [if_neg (fun hh => by rw [hh, Nat.beq_refl] at hb; cases hb)]
        exact ⟨.exit id', a₁, σ₁, ι₁, D₁, rfl, R₁, g₁, A₁, rfl⟩
    | normal => cases x₁; cases h; exact ⟨_, a₁, σ₁, ι₁, D₁, rfl, R₁, g₁, A₁, rfl⟩
    | ret => cases x₁; cases h; exact ⟨_, a₁, σ₁, ι₁, D₁, rfl, R₁, g₁, A₁, rfl⟩
    | goto l => cases x₁; cases h; exact ⟨_, a₁, σ₁, ι₁, D₁, rfl, R₁, g₁, A₁, rfl⟩
    | panic c => obtain ⟨q1, rfl⟩ := x₁; cases h; exact ⟨_, a₁, σ₁, ι₁, D₁, rfl, R₁, g₁, A₁, q1, rfl⟩
    | outgrown => exact x₁.elim

theorem scope_code (S : Sound cx rec) {x : Code} {out : Out} (h : scopeC (rec (.code rd x a) σ) = .ok out) : CodeOk cx rd (.scope x) a σ out := by
  intro ι D w R ac A hr
  cases h1 : rec (.code rd x a) σ with
  | er e => rw [h1] at h; cases h
  | ok o1 =>
    rw [h1] at h
    refine wpIn_scope (wpIn_mono (S _ _ _ h1 ι D w R ac A hr) ?_)
    rintro e₁ ac₁ w₁ ⟨e, a₁, σ₁, ι₁, D₁, rfl, R₁, g₁, A₁, x₁⟩
    cases e with
    | exit id' => cases x₁; cases h; exact ⟨_, a₁, σ₁, ι₁, D₁, rfl, R₁, g₁, A₁, rfl⟩
    | normal => cases x₁; cases h; exact ⟨_, a₁, σ₁, ι₁, D₁, rfl, R₁, g₁, A₁, rfl⟩
    | ret => cases x₁; cases h; exact ⟨_, a₁, σ₁, ι₁, D₁, rfl, R₁, g₁, A₁, rfl⟩
    | goto l => cases h
    | panic c => obtain ⟨q1, rfl⟩ := x₁; cases h; exact ⟨_, a₁, σ₁, ι₁, D₁, rfl, R₁, g₁, A₁, q1, rfl⟩
    | outgrown => exact x₁.elim

/-- Entering a range over a function. -/
theorem enter_sound (R : Rel ι D σ w) (A : AR ι D a ac) (hm : σ.next + 4 ≤ most) (fn : FuncId) (ps : Array Tmp) (asg body : Code) :
    ∃ ι' D' w', (Instr.enterLoop fn ac.tmps ps asg body none).run cx.P w = .ok ((ι' (σ.next + 1)).blk, [{ target := .collected (ι' σ.next).blk, args := #[] }]) w' ∧
      Rel ι' D' (enterM σ a ps.toList asg body) w' ∧ Go1 ι D σ w ι' D' (enterM σ a ps.toList asg body) w' ∧ D' σ.next ∧ D' (σ.next + 1) := by
  have hid : ¬ D σ.next := fun hD => Nat.lt_irrefl _ (R.next _ hD)
  have hx := upd_ext (ι := ι) (e := ⟨w.heap.size, 0, 0⟩) hid
  obtain ⟨k1, k2⟩ := alloc_block (obj := .deferred (some [])) R (by omega) (blk := .defs true) rfl (alloc_new _)
  have hid2 : ¬ addD D σ.next (σ.next + 1) := fun hD => by
    rcases hD with h | h
    · have := R.next _ h; omega
    · omega
  have hx2 := upd_ext (ι := upd ι σ.next ⟨w.heap.size, 0, 0⟩) (D := addD D σ.next) (id := σ.next + 1) (e := ⟨w.heap.size + 1, 0, 0⟩) hid2
  have hsz : (w.alloc (.deferred (some []))).heap.size = w.heap.size + 1 := alloc_size _
  have hself : upd (upd ι σ.next ⟨w.heap.size, 0, 0⟩) (σ.next + 1) ⟨w.heap.size + 1, 0, 0⟩ σ.next = ⟨w.heap.size, 0, 0⟩ := by
    rw [upd_other (by omega), upd_same]
  obtain ⟨k3, k4⟩ := alloc_block (σ := { σ with h := σ.h.set σ.next (some (.defs true)), next := σ.next + 1 }) (w := w.alloc (.deferred (some [])))
    (obj := .loop { state := .ready, pending := none, fn, tmps := ac.tmps, params := ps, assign := asg, body, defers := w.heap.size }) k1 (by simp only; omega)
    (blk := .loop ⟨.ready, none, a.T, a.nt, ps.toList, asg, body, σ.next⟩) rfl (by
      rw [hsz]
      refine ⟨_, by rw [← hsz]; exact alloc_new _, rfl, rfl, rfl, rfl, rfl, ?_, .inl (.inr rfl), (A.t.ext hx).ext hx2⟩
      rw [hself])
  rw [hsz] at k3 k4
  refine ⟨_, _, _, ?_, k3, k2.trans k4, .inl (.inr rfl), .inr rfl⟩
  rw [hself, upd_same]
  exact run_enterLoop_outer (P := cx.P) (w := w) fn ac.tmps ps asg body

theorem whomV_ok {f : Value} {vs : List Value} {m : Whom} (h : whomV f vs = .ok m) :
    ∃ fn first captured, f = .func fn first captured ∧ ((∃ g, fn = .func g ∧ m = .fn g (first.toList ++ vs ++ captured.toList)) ∨ ∃ l, fn = .yield l ∧ m = .round l (first.toList ++ vs)) := by
  unfold whomV at h
  split at h
  · rename_i fn first captured
    refine ⟨fn, first, captured, rfl, ?_⟩
    unfold whomF at h
    split at h
    · cases h; exact .inl ⟨_, rfl, rfl⟩
    · cases h; exact .inr ⟨_, rfl, rfl⟩
    · cases h
  · cases h

theorem range_code (S : Sound cx rec) (ok : CxOk cx) {g : Operand} {ps : Array Tmp} {asg body : Code} {out : Out} (h : rangeF cx rec rd ps.toList asg body a σ (evalO a.T g) = .ok out) : CodeOk cx rd (.rangeFunc g ps asg body) a σ out := by
  intro ι D w R ac A hr
  cases rd with
  | some l => cases h
  | none =>
    simp only [rangeF] at h
    cases hg : evalO a.T g with
    | er e => rw [hg] at h; cases h
    | ok f =>
      rw [hg] at h
      simp only at h
      split at h
      · rename_i hm
        have hm := ble_le hm
        cases hw : whomV f [.func (.yield (σ.next + 1)) #[] #[]] with
        | er e => rw [hw] at h; cases h
        | ok m =>
          rw [hw] at h
          obtain ⟨fn, first, captured, rfl, hcase⟩ := whomV_ok hw
          obtain ⟨e1, e2⟩ := evalO_sound R.glob A.t hg
          rw [vok] at e2
          obtain ⟨_, e5, e6⟩ := e2
          rcases hcase with ⟨gg, rfl, rfl⟩ | ⟨l, rfl, rfl⟩
          · simp only [rangeW] at h
            split at h
            · rename_i bd hbd
              cases hfn : cx.fn gg with
              | none => rw [hfn] at hbd; cases hbd
              | some fnn =>
                rw [hfn] at hbd
                have hb : fnn.body = some bd := hbd
                have hP := ok.fn gg fnn hfn
                have hnm := ok.names gg fnn hfn
                cases hrec : rec (.call gg (first.toList ++ [.func (.yield (σ.next + 1)) #[] #[]] ++ captured.toList)) (enterM σ a ps.toList asg body) with
                | er e => rw [hrec] at h; cases h
                | ok o1 =>
                  rw [hrec] at h
                  refine wpIn_rangeFunc fun fnid _ => ?_
                  obtain ⟨ι₁, D₁, w₁, k1, R₁, g₁, d1, d2⟩ := enter_sound (cx := cx) (w := w) R A hm fnid ps asg body
                  have hargs : ∀ v ∈ first.toList ++ [.func (.yield (σ.next + 1)) #[] #[]] ++ captured.toList, vok ι₁ D₁ v := by
                    intro v hv
                    simp only [List.mem_append, List.mem_singleton] at hv
                    rcases hv with (hv | hv) | hv
                    · exact g₁.ext.vok (e5 v (by simpa using hv))
                    · subst hv; simp only [vok, okF]; exact ⟨d2, by simp, by simp⟩
                    · exact g₁.ext.vok (e6 v (by simpa using hv))
                  have hargs2 : first.map (ren ι) ++ #[Value.func (.yield (ι₁ (σ.next + 1)).blk) #[] #[]] ++ captured.map (ren ι) = ((first.toList ++ [Value.func (.yield (σ.next + 1)) #[] #[]] ++ captured.toList).map (ren ι₁)).toArray := by
                    rw [Array.map_congr_left fun v hv => (g₁.ext.ren (e5 v hv)).symm, Array.map_congr_left fun v hv => (g₁.ext.ren (e6 v hv)).symm]
                    apply Array.ext'
                    simp [ren, renF]
                  refine ⟨(ι₁ (σ.next + 1)).blk, [{ target := .collected (ι₁ σ.next).blk, args := #[] }], w₁, { target := .fn (.func gg) (captured.map (ren ι)), args := first.map (ren ι) ++ #[.func (.yield (ι₁ (σ.next + 1)).blk) #[] #[]] }, w₁, gg, ((first.toList ++ [Value.func (.yield (σ.next + 1)) #[] #[]] ++ captured.toList).map (ren ι₁)).toArray, w₁, k1, ?_, fun _ _ => trivial, ?_, fun hd => (by rw [fenceOf_depth] at hd; cases hd), ?_⟩
                  · simp only [resolve, rangeCall, e1, ren, Deferred.ofValue, Sem.run_pure, renF]
                    simp [Act.eval]
                  · simp only [invoke]
                    rw [hargs2]
                    exact run_call_body hP hnm hb
                  · have hS := S _ _ _ hrec ι₁ D₁ w₁ R₁ hargs
                    refine CallsIn.mono hS ?_
                    have hAT : ∀ {ι₂ : Emb} {D₂ : Nat → Prop}, Ext ι₁ D₁ ι₂ D₂ → AR ι₂ D₂ (enterT a σ.next) { ac with defers := [{ target := .collected (ι₁ σ.next).blk, args := #[] }] ++ ac.defers } := by
                      intro ι₂ D₂ hx
                      have hA := A.ext (g₁.ext.trans hx)
                      refine ⟨hA.t, ?_, fun d hd => ?_⟩
                      · simp only [enterT, List.map_cons, List.singleton_append, hA.d, renD, hx.em _ d1]
                        simp
                      · simp only [enterT, List.mem_cons] at hd
                        rcases hd with rfl | hd
                        · exact ⟨hx.dom _ d1, by simp⟩
                        · exact hA.o d hd
                    rintro e' w₂ ⟨e, σ₂, ι₂, D₂, rfl, R₂, g₂, x₂⟩
                    simp only [rangeB] at h
                    cases e with
                    | returned v =>
                      obtain ⟨_, rfl⟩ := x₂
                      simp only [rangeE, endLoopA] at h
                      cases hl : loopB (σ₂.h.get (σ.next + 1)) with
                      | none => rw [hl] at h; cases h
                      | some r =>
                        rw [hl] at h
                        have hl := loopB_ok hl
                        simp only at h
                        split at h
                        · cases h
                        · rename_i hbusy
                          obtain ⟨hD, L, hL, hLR⟩ := R₂.live _ _ hl
                          obtain ⟨R₃, g₃⟩ := setState_sound (st := .exhausted) R₂ hl hL hLR
                          have he := g₂.ext.em _ d2
                          rw [he] at hL R₃ g₃
                          have hst : L.state ≠ .busy := by
                            rw [hLR.st]
                            intro hh
                            rw [hh] at hbusy
                            cases hbusy
                          refine ⟨L.pending, _, run_endLoop hL hst, ?_⟩
                          have hA := hAT (g₂.ext.trans g₃.ext)
                          have hg := g₁.trans (g₂.trans g₃)
                          have hpend := hLR.pend
                          generalize w₂.putObj (ι₁ (σ.next + 1)).blk (.loop { L with state := .exhausted }) = w₄ at R₃ hg ⊢
                          generalize ({ σ₂ with h := σ₂.h.set (σ.next + 1) (some (.loop { r with st := .exhausted })) } : Mem) = σ₄ at R₃ hg h
                          rw [hpend]
                          cases hp : r.pend with
                          | none =>
                            rw [hp] at h
                            simp only [pendC] at h
                            cases h
                            exact ⟨_, _, _, ι₂, D₂, rfl, R₃, hg, hA, rfl⟩
                          | some c =>
                            rw [hp] at h
                            simp only [pendC] at h
                            have h3 := S _ _ _ h ι₂ D₂ _ R₃ _ hA (fun l hl => by cases hl)
                            exact wpIn_mono h3 fun _ _ _ q => q.trans hg
                    | panicked ch =>
                      obtain ⟨q1, rfl⟩ := x₂
                      simp only [rangeE] at h
                      cases h
                      exact ⟨_, _, _, ι₂, D₂, rfl, R₂, g₁.trans g₂, hAT g₂.ext, q1, rfl⟩
                    | outgrown => exact x₂.elim
            · cases h
          · cases h
      · cases h

theorem region_code (S : Sound cx rec) (ok : CxOk cx) {id : Nat} {ops : Array Oper} {out : Out} (h : seqOps cx rec rd ops.toList ops.toList a σ = .ok out) : CodeOk cx rd (.region id ops false) a σ out := by
  intro ι D w R ac A hr
  refine wpIn_region ?_
  rw [List.range_eq_range']
  have := seqOps_sound (Q := PostCode ι D σ w out) S ok (ops := ops) ops.toList 0 a σ out ι D w ac rfl (by simp) h R A hr (fun _ _ _ h => h)
  simpa using this

end
end
end Go.VI
