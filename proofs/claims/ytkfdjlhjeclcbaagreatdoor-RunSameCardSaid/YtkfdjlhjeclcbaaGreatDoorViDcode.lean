/-
  VI: the code of a deferred call that may recover.
-/
import Derived.Test.YtkfdjlhjeclcbaaGreatDoorViLeave
namespace Go.VI
open Go
noncomputable section

section
variable {F : Fence} {n : Nat} {P : Program} {Q : Exit → Act → List Frame → World → Prop} {ac : Act} {cs : List Frame} {w : World}

def inBlockS (id : Nat) (Q : Exit → Act → List Frame → World → Prop) : Exit → Act → List Frame → World → Prop
  | .exit id', a, cs, w => if id' = id then Q .normal a cs w else Q (.exit id') a cs w
  | e, a, cs, w => Q e a cs w

theorem wpSIn_block {id : Nat} {c : Code} (h : c.wpSIn F n P (inBlockS id Q) ac cs w) : (Code.block id c).wpSIn F n P Q ac cs w := by
  intro b k hb hro hF hr
  have h0 : (lone (b.atR ac (.code (.block id c) :: k)) cs w).fenced P F := fenced_calm hF hr rfl
  obtain ⟨e, a₁, cs₁, w₁, hl, hq, harr⟩ := h b (.inBlock id :: k) hb hro hF hr
  have hr₁ : F.room (cs₁.length + 1 + n) := hl ▸ hr
  cases e with
  | normal => exact ⟨.normal, a₁, cs₁, w₁, hl, hq, .head h0 stepR_block (StepsIn.trans harr (.one (fenced_calm hF hr₁ rfl) stepR_inBlock))⟩
  | exit id' =>
    by_cases hid : id' = id
    · simp only [inBlockS, hid, if_true] at hq
      exact ⟨.normal, a₁, cs₁, w₁, hl, hq, .head h0 stepR_block (harr.1 k (by simp [exitTo, hid]))⟩
    · simp only [inBlockS, hid, if_false] at hq
      have this : (id == id') = false := by simp; exact fun h => hid h.symm
      have hx : exitTo id' (.inBlock id :: k) = exitTo id' k := by simp [exitTo, this]
      exact ⟨.exit id', a₁, cs₁, w₁, hl, hq, fun k' hk => .head h0 stepR_block (harr.1 k' (by rw [hx]; exact hk)),
        fun hr' hk => let ⟨k₁, h1, h2⟩ := harr.2 hr' (by rw [hx]; exact hk); ⟨k₁, h1, .head h0 stepR_block h2⟩⟩
  | goto l =>
    have hx : gotoIn l (.inBlock id :: k) = gotoIn l k := by simp [gotoIn]
    exact ⟨_, a₁, cs₁, w₁, hl, hq, fun k' hk => .head h0 stepR_block (harr.1 k' (by rw [hx]; exact hk)),
      fun hr' hk => let ⟨k₁, h1, h2⟩ := harr.2 hr' (by rw [hx]; exact hk); ⟨k₁, h1, .head h0 stepR_block h2⟩⟩
  | ret => exact ⟨_, a₁, cs₁, w₁, hl, hq, .of_steps (.one h0 stepR_block) harr⟩
  | panic ch => exact ⟨_, a₁, cs₁, w₁, hl, hq, .of_steps (.one h0 stepR_block) harr⟩
  | outgrown => exact ⟨_, a₁, cs₁, w₁, hl, hq, .of_steps (.one h0 stepR_block) harr⟩

end

section
variable {cx : Cx} {rec : Rec} {ι ι' : Emb} {D D' : Nat → Prop} {σ : Mem} {w w' : World} {a : Ac} {ac : Act} {u : FrameMode}

theorem PostDcode.trans {out : Out} {e' : Exit} {ac' : Act} {u' : FrameMode} {w'' : World} {σ' : Mem} (g : Go1 ι D σ w ι' D' σ' w') (h : PostDcode ι' D' σ' w' out e' ac' u' w'') : PostDcode ι D σ w out e' ac' u' w'' := by
  obtain ⟨e, a', u₁, σ₁, ι₁, D₁, h1, h2, h3, h4⟩ := h
  exact ⟨e, a', u₁, σ₁, ι₁, D₁, h1, h2, g.trans h3, h4⟩

/-- What is said of such a piece of code. -/
def DcodeOk (cx : Cx) (c : Code) (a : Ac) (u : FrameMode) (σ : Mem) (out : Out) : Prop :=
  ∀ (ι : Emb) (D : Nat → Prop) (w : World), Rel ι D σ w → ∀ (ac : Act) (c0 : Frame) (cs : List Frame), AR ι D a ac → okU ι D u → c0.mode = renU ι u →
      c.wpSIn Fence.wide 0 cx.P (fun e' ac' cs' w' => ∃ u', cs' = { c0 with mode := u' } :: cs ∧ PostDcode ι D σ w out e' ac' u' w') ac (c0 :: cs) w

theorem same_mode {c0 : Frame} {u : FrameMode} (h : c0.mode = u) : ({ c0 with mode := u } : Frame) = c0 := by subst h; rfl

theorem plain_d (S : Sound cx rec) {c : Code} {out : Out} (h : plainD u (rec (.code none c a) σ) = .ok out) : DcodeOk cx c a u σ out := by
  intro ι D w R ac c0 cs A ou hm
  cases hrec : rec (.code none c a) σ with
  | er e => rw [hrec] at h; cases h
  | ok o1 =>
    rw [hrec] at h
    refine wpSIn_of_wpIn rfl (wpIn_mono (S _ _ _ hrec ι D w R ac A (fun l hl => by cases hl)) ?_)
    rintro e' ac' w' ⟨e, a', σ', ι', D', rfl, R', g', A', x'⟩
    simp only [plainD] at h
    cases h
    obtain ⟨q1, q2⟩ := okU_ext g'.ext ou
    exact ⟨renU ι u, by rw [same_mode hm], e, a', u, σ', ι', D', rfl, R', g', A', x', q2, q1.symm⟩

theorem seq_d (S : Sound cx rec) {x y : Code} {out : Out} (h : thenD rec y (rec (.dcode x a u) σ) = .ok out) : DcodeOk cx (.seq x y) a u σ out := by
  intro ι D w R ac c0 cs A ou hm
  cases hrec : rec (.dcode x a u) σ with
  | er e => rw [hrec] at h; cases h
  | ok o1 =>
    rw [hrec] at h
    refine wpSIn_seq (wpSIn_mono (S _ _ _ hrec ι D w R ac c0 cs A ou hm) ?_)
    rintro e' ac' cs' w' ⟨u', rfl, e, a', u₁, σ', ι', D', rfl, R', g', A', x', ou', rfl⟩
    by_cases hn : e = .normal
    · subst hn
      cases x'
      simp only [thenD] at h
      refine wpSIn_mono (S _ _ _ h ι' D' w' R' ac' { c0 with mode := renU ι' u₁ } cs A' ou' rfl) ?_
      rintro e2 a2 cs2 w2 ⟨u2, rfl, hp⟩
      exact ⟨u2, rfl, hp.trans g'⟩
    · have hout : out = .dcode e a' u₁ σ' := by
        cases e <;> simp only [thenD] at h <;> first
          | exact absurd rfl hn
          | (cases h; rfl)
      have hne := notNormal x' hn
      have hp : ∃ u', { c0 with mode := renU ι' u₁ } :: cs = { c0 with mode := u' } :: cs ∧ PostDcode ι D σ w out e' ac' u' w' := ⟨_, rfl, e, a', u₁, σ', ι', D', hout, R', g', A', x', ou', rfl⟩
      cases e' <;> first
        | exact absurd rfl hne
        | exact hp

theorem cond_d (S : Sound cx rec) {c : Operand} {x y : Code} {out : Out} (h : condD rec x y a u σ (evalO a.T c) = .ok out) : DcodeOk cx (.cond c x y) a u σ out := by
  intro ι D w R ac c0 cs A ou hm
  unfold condD at h
  split at h
  · rename_i hc
    have h1 := (evalO_sound R.glob A.t hc).1
    exact wpSIn_cond (t := true) (by simpa [ren] using h1) (S _ _ _ h ι D w R ac c0 cs A ou hm)
  · rename_i hc
    have h1 := (evalO_sound R.glob A.t hc).1
    exact wpSIn_cond (t := false) (by simpa [ren] using h1) (S _ _ _ h ι D w R ac c0 cs A ou hm)
  · cases h

theorem block_d (S : Sound cx rec) {id : Nat} {x : Code} {out : Out} (h : blockD id (rec (.dcode x a u) σ) = .ok out) : DcodeOk cx (.block id x) a u σ out := by
  intro ι D w R ac c0 cs A ou hm
  cases hrec : rec (.dcode x a u) σ with
  | er e => rw [hrec] at h; cases h
  | ok o1 =>
    rw [hrec] at h
    refine wpSIn_block (wpSIn_mono (S _ _ _ hrec ι D w R ac c0 cs A ou hm) ?_)
    rintro e' ac' cs' w' ⟨u', rfl, e, a', u₁, σ', ι', D', rfl, R', g', A', x', ou', rfl⟩
    cases e with
    | exit id' =>
      cases x'
      simp only [blockD, outOfD] at h
      show (if id' = id then _ else _)
      split at h
      · rename_i hb
        cases h
        rw [if_pos (beq_eq hb)]
        exact ⟨_, rfl, .normal, a', u₁, σ', ι', D', rfl, R', g', A', rfl, ou', rfl⟩
      · rename_i hb
        cases h
        rw [if_neg (fun hh => by rw [hh, Nat.beq_refl] at hb; cases hb)]
        exact ⟨_, rfl, .exit id', a', u₁, σ', ι', D', rfl, R', g', A', rfl, ou', rfl⟩
    | normal => cases x'; cases h; exact ⟨_, rfl, _, a', u₁, σ', ι', D', rfl, R', g', A', rfl, ou', rfl⟩
    | ret => cases x'; cases h; exact ⟨_, rfl, _, a', u₁, σ', ι', D', rfl, R', g', A', rfl, ou', rfl⟩
    | goto l => cases x'; cases h; exact ⟨_, rfl, _, a', u₁, σ', ι', D', rfl, R', g', A', rfl, ou', rfl⟩
    | panic c => obtain ⟨q1, rfl⟩ := x'; cases h; exact ⟨_, rfl, _, a', u₁, σ', ι', D', rfl, R', g', A', ⟨q1, rfl⟩, ou', rfl⟩
    | outgrown => exact x'.elim

theorem hd_ok {r : Ho} {a' : Ac} {u' : FrameMode} {σ' : Mem} (h : hdR u r = .go a' u' σ') : r = .go a' σ' ∧ u' = u := by
  unfold hdR at h
  cases r <;> cases h
  exact ⟨rfl, rfl⟩

theorem fin_ok {dst : Option Tmp} {v : Value} {a' : Ac} {σ' : Mem} (h : fin a dst v σ = .go a' σ') : a.put dst v = .ok a' ∧ σ' = σ := by
  unfold fin goR at h
  cases hp : a.put dst v with
  | er e => rw [hp] at h; cases h
  | ok a₁ => rw [hp] at h; cases h; exact ⟨rfl, rfl⟩

/-- recover, at the machine's stack. -/
theorem recover_sound {dst : Option Tmp} {a' : Ac} {u' : FrameMode} {σ' : Mem} {c0 : Frame} {cs : List Frame} (A : AR ι D a ac) (ou : okU ι D u) (hm : c0.mode = renU ι u) (h : recoverA a dst σ u = .go a' u' σ') :
    σ' = σ ∧ okU ι D u' ∧ ((∃ v, recoverD (c0 :: cs) = some (v, { c0 with mode := renU ι u' } :: cs) ∧ AR ι D a' (ac.put dst v)) ∨
      (recoverD (c0 :: cs) = none ∧ u' = u ∧ AR ι D a' (ac.put dst .nilIface))) := by
  have nil : ∀ {a'}, a.put dst .nilIface = .ok a' → AR ι D a' (ac.put dst .nilIface) := fun hp => by
    have := put_sound A (v := .nilIface) (by simp [vok]) hp
    simpa [ren] using this
  unfold recoverA at h
  cases u with
  | run => cases h
  | returning =>
    obtain ⟨h1, rfl⟩ := hd_ok h
    obtain ⟨h2, rfl⟩ := fin_ok h1
    exact ⟨rfl, trivial, .inr ⟨by simp [recoverD, hm, renU], rfl, nil h2⟩⟩
  | panicking c =>
    simp only at h
    cases c with
    | nil =>
      simp only [recoverC] at h
      obtain ⟨h1, rfl⟩ := hd_ok h
      obtain ⟨h2, rfl⟩ := fin_ok h1
      exact ⟨rfl, ou, .inr ⟨by simp [recoverD, hm, renU], rfl, nil h2⟩⟩
    | cons e older =>
      obtain ⟨v, rv, ge⟩ := e
      simp only [recoverC] at h
      split at h
      · rename_i hb
        obtain ⟨h1, rfl⟩ := hd_ok h
        obtain ⟨h2, rfl⟩ := fin_ok h1
        refine ⟨rfl, ou, .inr ⟨?_, rfl, nil h2⟩⟩
        simp only [recoverD, hm, renU, List.map_cons, renP]
        cases rv <;> cases ge <;> simp_all
      · rename_i hb
        obtain ⟨h1, rfl⟩ := hd_ok h
        obtain ⟨h2, rfl⟩ := fin_ok h1
        have hv : vok ι D v := ou ⟨v, rv, ge⟩ (by simp)
        refine ⟨rfl, ?_, .inl ⟨ren ι v, ?_, put_sound A hv h2⟩⟩
        · intro p hp
          rcases List.mem_cons.1 hp with rfl | hp
          · exact hv
          · exact ou p (by simp [hp])
        · have hb' : rv = false ∧ ge = false := by cases rv <;> cases ge <;> simp_all
          obtain ⟨rfl, rfl⟩ := hb'
          simp [recoverD, hm, renU, renP]

theorem recoverOp_ok {o : Oper} (h : recoverOp o.op = true) : ∃ c, o.op = .call c ∧ c.callee = .builtin .recover := by
  unfold recoverOp at h
  split at h
  · rename_i c ho
    unfold isRecover at h
    split at h
    · exact ⟨c, ho, by assumption⟩
    · cases h
  · cases h

theorem seqD_sound (ok : CxOk cx) {ops : Array Oper} {Q : Exit → Act → List Frame → World → Prop} {c0 : Frame} {cs : List Frame} : ∀ (l : List Oper) (k : Nat) (a : Ac) (u : FrameMode) (σ : Mem) (out : Out) (ι : Emb) (D : Nat → Prop) (w : World) (ac : Act) (m : FrameMode),
    ops.toList.drop k = l → k + l.length = ops.size →
    seqOpsD cx ops.toList l a u σ = .ok out → Rel ι D σ w → AR ι D a ac → okU ι D u → m = renU ι u → (∀ e ac' u' w', PostDcode ι D σ w out e ac' u' w' → Q e ac' ({ c0 with mode := u' } :: cs) w') →
    wpOpsSIn Fence.wide 0 cx.P ops Q (List.range' k l.length) ac ({ c0 with mode := m } :: cs) w
  | [], k, a, u, σ, out, ι, D, w, ac, m, _, _, h, R, A, ou, hm, hQ => by
    simp only [seqOpsD] at h
    cases h
    subst hm
    exact hQ _ _ _ _ ⟨.normal, a, u, σ, ι, D, rfl, R, Go1.refl _ _ _ _, A, rfl, ou, rfl⟩
  | o :: r, k, a, u, σ, out, ι, D, w, ac, m, hdrop, hk, h, R, A, ou, hm, hQ => by
    have ho : ops[k]? = some o := by
      have := congrArg (fun l => l[0]?) hdrop
      simpa using this
    have hdrop' : ops.toList.drop (k + 1) = r := by
      have := congrArg List.tail hdrop
      simpa using this
    have hk' : k + 1 + r.length = ops.size := by simp only [List.length_cons] at hk; omega
    subst hm
    simp only [seqOpsD] at h
    rw [List.length_cons, List.range'_succ]
    simp only [wpOpsSIn, ho]
    refine ⟨fun _ _ => trivial, ?_⟩
    cases hw : wantedA ops.toList o a.T with
    | none => rw [hw] at h; simp only [oneD] at h; cases h
    | some b =>
      rw [wanted_all A.t hw]
      rw [hw] at h
      cases b with
      | false =>
        rw [if_neg Bool.false_ne_true]
        split at h
        · rename_i a' u' σ' hh
          simp only [oneD] at hh
          obtain ⟨h1, rfl⟩ := hd_ok hh
          obtain ⟨h2, rfl⟩ := fin_ok h1
          have hA := put_sound A (vok_undef (ι := ι) (D := D)) h2
          rw [ren_undef] at hA
          exact seqD_sound ok r (k + 1) a' u' σ' out ι D w _ _ hdrop' hk' h R hA ou rfl hQ
        · cases h
      | true =>
        rw [if_pos rfl]
        split at h
        · rename_i a' u' σ' hh
          simp only [oneD, opD] at hh
          split at hh
          · rename_i hrec
            obtain ⟨c, hc1, hc2⟩ := recoverOp_ok hrec
            have hrun : (execOp ac.eval o).run cx.P w = .ok .recover w := by
              simp [execOp, hc1, resolve, hc2, invoke, builtin]
            obtain ⟨rfl, ou', hcase⟩ := recover_sound (c0 := { c0 with mode := renU ι u }) (cs := cs) A ou rfl hh
            rw [hrun]
            rcases hcase with ⟨v, q1, q2⟩ | ⟨q1, rfl, q2⟩
            · simp only [q1]
              exact seqD_sound ok r (k + 1) a' u' σ' out ι D w _ _ hdrop' hk' h R q2 ou' rfl hQ
            · simp only [q1]
              exact seqD_sound ok r (k + 1) a' u' σ' out ι D w _ _ hdrop' hk' h R q2 ou' rfl hQ
          · unfold lightH at hh
            cases hl : light cx o a.T σ with
            | none => rw [hl] at hh; cases hh
            | some l =>
              rw [hl] at hh
              simp only at hh
              obtain ⟨h1, rfl⟩ := hd_ok hh
              obtain ⟨v, σ₁, ι', D', w', k1, k2, k3, k4, k5⟩ := light_sound (w := w) ok R (ops_all R.glob A.t o.op.operands) hl (by rw [h1]; intro why hw; cases hw)
              rw [k1] at h1
              obtain ⟨h2, rfl⟩ := fin_ok h1
              rw [k2]
              simp only
              have hA := put_sound (A.ext k4.ext) k5 h2
              obtain ⟨q1, q2⟩ := okU_ext k4.ext ou
              exact seqD_sound ok r (k + 1) a' u' σ' out ι' D' w' _ _ hdrop' hk' h k3 hA q2 q1.symm (fun e ac' u' w' hp => hQ e ac' u' w' (hp.trans k4))
        · cases h

theorem region_d (ok : CxOk cx) {id : Nat} {ops : Array Oper} {out : Out} (h : seqOpsD cx ops.toList ops.toList a u σ = .ok out) : DcodeOk cx (.region id ops false) a u σ out := by
  intro ι D w R ac c0 cs A ou hm
  refine wpSIn_region ?_
  rw [List.range_eq_range']
  have := seqD_sound (Q := fun e' ac' cs' w' => ∃ u', cs' = { c0 with mode := u' } :: cs ∧ PostDcode ι D σ w out e' ac' u' w') (c0 := c0) (cs := cs) ok (ops := ops) ops.toList 0 a u σ out ι D w ac c0.mode rfl (by simp) h R A ou hm
    (fun e ac' u' w' hp => ⟨u', rfl, hp⟩)
  simpa using this

theorem dcode_task (S : Sound cx rec) (ok : CxOk cx) {c : Code} {out : Out} (h : dcodeA cx rec a u σ c = .ok out) : SoundT cx (.dcode c a u) σ out := by
  unfold dcodeA at h
  split at h
  · unfold codeD at h
    split at h
    · exact seq_d S h
    · exact cond_d S h
    · exact block_d S h
    · rename_i id ops draw
      unfold regionD at h
      split at h
      · exact region_d ok h
      · cases h
    · cases h
  · exact plain_d S h

end
end
end Go.VI
