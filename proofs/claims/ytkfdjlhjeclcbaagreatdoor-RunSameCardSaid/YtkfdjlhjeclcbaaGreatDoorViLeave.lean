/-
  VI: calls, and how they are left.
-/
import Derived.Test.YtkfdjlhjeclcbaaGreatDoorViCode
namespace Go.VI
open Go
noncomputable section

section
variable {cx : Cx} {rec : Rec} {ι ι' : Emb} {D D' : Nat → Prop} {σ : Mem} {w w' : World} {a : Ac} {ac : Act} {rd : Option Nat}

/-! ### Modes -/

theorem drop_map (ι : Emb) (l : List PanicEntry) : (l.map (renP ι)).dropWhile (!·.goexit) = (l.dropWhile (!·.goexit)).map (renP ι) := by
  induction l with
  | nil => rfl
  | cons p r ih =>
    simp only [List.map_cons, List.dropWhile_cons, renP]
    split
    · exact ih
    · simp [renP]

theorem settle_ren (u : FrameMode) (o : okU ι D u) : settle (renU ι u) = renU ι (settle u) ∧ okU ι D (settle u) := by
  cases u with
  | run => exact ⟨rfl, trivial⟩
  | returning => exact ⟨rfl, trivial⟩
  | panicking c =>
    cases c with
    | nil => exact ⟨rfl, o⟩
    | cons p older =>
      obtain ⟨v, rec, ge⟩ := p
      cases rec with
      | false => exact ⟨rfl, o⟩
      | true =>
        simp only [renU, List.map_cons, renP, settle]
        rw [drop_map]
        cases hd : older.dropWhile (!·.goexit) with
        | nil => exact ⟨rfl, trivial⟩
        | cons q rest =>
          refine ⟨rfl, fun x hx => o x ?_⟩
          have : x ∈ older := (List.dropWhile_sublist _).subset (by rw [hd]; exact hx)
          exact List.mem_cons_of_mem _ this

theorem raised_ren (u : FrameMode) (c : List PanicEntry) (o : okU ι D u) (oc : okC ι D c) : raised (renU ι u) (c.map (renP ι)) = renU ι (raised u c) ∧ okU ι D (raised u c) := by
  cases u with
  | run => exact ⟨rfl, oc⟩
  | returning => exact ⟨rfl, oc⟩
  | panicking old =>
    refine ⟨by simp [raised, renU], fun p hp => ?_⟩
    rcases List.mem_append.1 hp with h | h
    · exact oc p h
    · exact o p h

/-! ### Results -/

def resV (tmps : Array Value) (r : ResultVar) : Sem Value :=
  match r with
  | .tmp t => pure (tmps.getD t undef)
  | .cell a t => do loadVar t (← asAddr (tmps.getD a undef))

theorem results_eq (fn : Func) (tmps : Array Value) : Go.results fn tmps = (do
    let vs ← fn.results.mapM (resV tmps)
    pure (if h : vs.size = 1 then vs[0] else .tuple vs)) := rfl

theorem results_list (ok : CxOk cx) (R : Rel ι D σ w) {T : Tr Value} {nt : Nat} {tmps : Array Value} (t : TR ι D T nt tmps) : ∀ (rs : List ResultVar) {vs : List Value}, resultsA cx σ T rs = .ok vs →
    (rs.mapM (resV tmps)).run cx.P w = .ok (vs.map (ren ι)) w ∧ ∀ v ∈ vs, vok ι D v
  | [], vs, h => by simp only [resultsA] at h; cases h; simp
  | r :: rs, vs, h => by
    simp only [resultsA] at h
    have cons : ∀ (x : Rs Value), resCons x (resultsA cx σ T rs) = .ok vs → ∃ v us, x = .ok v ∧ resultsA cx σ T rs = .ok us ∧ vs = v :: us := by
      intro x hx
      unfold resCons at hx
      cases x with
      | er e => cases hx
      | ok v =>
        simp only at hx
        cases hr : resultsA cx σ T rs with
        | er e => rw [hr] at hx; cases hx
        | ok us => rw [hr] at hx; simp only [consR] at hx; cases hx; exact ⟨v, us, rfl, rfl, rfl⟩
    have hget : ∀ k v, tmpO (T.get k) = .ok v → tmps.getD k undef = ren ι v ∧ vok ι D v := by
      intro k v hv
      unfold tmpO at hv
      cases hk : T.get k with
      | none => rw [hk] at hv; cases hv
      | some u =>
        rw [hk] at hv; cases hv
        obtain ⟨h1, h2⟩ := t.all k v hk
        exact ⟨by rw [Array.getD_eq_getD_getElem?, h1]; rfl, h2⟩
    cases r with
    | tmp k =>
      obtain ⟨v, us, h1, h2, rfl⟩ := cons _ h
      obtain ⟨i1, i2⟩ := results_list ok R t rs h2
      obtain ⟨g1, g2⟩ := hget k v h1
      refine ⟨?_, ?_⟩
      · simp only [List.mapM_cons, Sem.run_bind, resV, Sem.run_pure, Result.andThen_ok, i1, g1, List.map_cons]
      · intro u hu
        rcases List.mem_cons.1 hu with rfl | hu
        · exact g2
        · exact i2 u hu
    | cell k ty =>
      obtain ⟨v, us, h1, h2, rfl⟩ := cons _ h
      obtain ⟨i1, i2⟩ := results_list ok R t rs h2
      unfold loadO at h1
      cases hk : tmpO (T.get k) with
      | er e => rw [hk] at h1; cases h1
      | ok p =>
        rw [hk] at h1
        simp only at h1
        obtain ⟨g1, g2⟩ := hget k p hk
        obtain ⟨l1, l2⟩ := load_sound ok R h1
        have hload : (resV tmps (.cell k ty)).run cx.P w = .ok (ren ι v) w := by
          simp only [resV, g1]
          unfold loadA at h1
          split at h1
          · simp only [Instr.loadAt, ren, Instr.sureAddr, Sem.run_bind, Sem.run_pure, Result.andThen_ok] at l1
            simp only [ren, asAddr, Sem.run_bind, Sem.run_pure, Result.andThen_ok]
            exact l1
          · cases h1
        refine ⟨?_, ?_⟩
        · simp only [List.mapM_cons, Sem.run_bind, hload, Sem.run_pure, Result.andThen_ok, i1, List.map_cons]
        · intro u hu
          rcases List.mem_cons.1 hu with rfl | hu
          · exact l2
          · exact i2 u hu

theorem results_sound (ok : CxOk cx) (R : Rel ι D σ w) {fn : Func} {T : Tr Value} {nt : Nat} {tmps : Array Value} (t : TR ι D T nt tmps) {vs : List Value} (h : resultsA cx σ T fn.results.toList = .ok vs) :
    (Go.results fn tmps).run cx.P w = .ok (ren ι (resultOf vs)) w ∧ vok ι D (resultOf vs) := by
  obtain ⟨h1, h2⟩ := results_list ok R t _ h
  constructor
  · rw [results_eq, Array.mapM_eq_mapM_toList]
    simp only [Sem.run_bind, Sem.run_map, h1, Result.andThen_ok, Sem.run_pure]
    cases vs with
    | nil => simp [ren, resultOf]
    | cons v r =>
      cases r with
      | nil => simp [resultOf]
      | cons u r => simp [resultOf, ren]
  · unfold resultOf
    split
    · exact h2 _ (by simp)
    · rw [vok]
      intro v hv
      exact h2 v (by simpa using hv)

/-! ### A frame that leaves -/

theorem PostCall.trans {out : Out} {e' : Ending} {w'' : World} {σ' : Mem} (g : Go1 ι D σ w ι' D' σ' w') (h : PostCall ι' D' σ' w' out e' w'') : PostCall ι D σ w out e' w'' := by
  obtain ⟨e, σ₁, ι₁, D₁, h1, h2, h3, h4⟩ := h
  exact ⟨e, σ₁, ι₁, D₁, h1, h2, g.trans h3, h4⟩

theorem isOpenD_ok {b : Option Blk} (h : isOpenD b = true) : b = some (.defs true) := by
  unfold isOpenD at h
  split at h
  · rfl
  · cases h

theorem goU_ok {u u' : FrameMode} {σ' : Mem} (h : goU u σ = .go u' σ') : u ≠ .run ∧ u' = u ∧ σ' = σ := by
  unfold goU at h
  split at h
  · cases h
  · rename_i hne
    cases h
    exact ⟨fun h => hne h, rfl, rfl⟩

theorem leave_sound (S : Sound cx rec) (ok : CxOk cx) {fn : Func} {T : Tr Value} {nt : Nat} {tmps : Array Value} {out : Out} {Rf : Ending → World → Prop} : ∀ (ds : List Deferred) (u : FrameMode) (σ : Mem) (ι : Emb) (D : Nat → Prop) (w : World),
    leaveA cx rec fn T ds u σ = .ok out → Rel ι D σ w → TR ι D T nt tmps → (∀ d ∈ ds, okD ι D d) → okU ι D u → u ≠ .run → (∀ e' w', PostCall ι D σ w out e' w' → Rf e' w') →
    LeavesInM Fence.wide 0 cx.P fn tmps Rf (ds.map (renD ι)) (renU ι u) w
  | [], u, σ, ι, D, w, h, R, t, _, ou, hu, hR => by
    cases u with
    | run => exact absurd rfl hu
    | returning =>
      simp only [leaveA] at h
      cases hr : resultsA cx σ T fn.results.toList with
      | er e => rw [hr] at h; cases h
      | ok vs =>
        rw [hr] at h
        simp only [retR] at h
        cases h
        obtain ⟨k1, k2⟩ := results_sound (fn := fn) ok R t hr
        exact ⟨_, k1, hR _ _ ⟨_, σ, ι, D, rfl, R, Go1.refl _ _ _ _, k2, rfl⟩⟩
    | panicking c =>
      simp only [leaveA] at h
      cases h
      exact hR _ _ ⟨_, σ, ι, D, rfl, R, Go1.refl _ _ _ _, ou, rfl⟩
  | d :: ds, u, σ, ι, D, w, h, R, t, od, ou, hu, hR => by
    have hru : renU ι u ≠ .run := by cases u <;> first | exact absurd rfl hu | (simp [renU])
    refine ⟨hru, ?_⟩
    simp only [leaveA] at h
    have hod := od d (by simp)
    obtain ⟨tg, dargs⟩ := d
    cases tg with
    | collected r =>
      left
      simp only [leaveD] at h
      split at h
      · rename_i u' σ' hgo
        split at hgo
        · rename_i hop
          cases hgo
          have hop := isOpenD_ok hop
          obtain ⟨hD, hobj⟩ := R.live r _ hop
          have hobj : w.heap[(ι r).blk]? = some (.deferred (some [])) := hobj
          obtain ⟨R', g'⟩ := poke_sound (w' := w.putObj (ι r).blk (.deferred none)) R hop rfl rfl (new := .defs false) rfl rfl (fun k hk => World.putObj_heap_other hk) (by simp) rfl rfl rfl
            (World.putObj_heap_same (Array.getElem?_eq_some_iff.1 hobj).1)
          refine ⟨(ι r).blk, _, rfl, run_takeDeferred hobj, ?_⟩
          exact leave_sound S ok ds u _ ι D _ h R' t (fun d hd => od d (by simp [hd])) ou hu (fun e' w' hp => hR e' w' (hp.trans g'))
        · cases hgo
      · cases h
    | fn f captured =>
      right
      refine ⟨fun hd => (by cases hd), ?_⟩
      cases f with
      | func g =>
        simp only [leaveD] at h
        obtain ⟨⟨_, oc⟩, oa⟩ := hod
        split at h
        · rename_i u' σ' hgo
          split at hgo
          · rename_i bd hbd
            cases hfn : cx.fn g with
            | none => rw [hfn] at hbd; cases hbd
            | some fnn =>
              rw [hfn] at hbd
              have hb : fnn.body = some bd := hbd
              have hP := ok.fn g fnn hfn
              have hnm := ok.names g fnn hfn
              cases hrec : rec (.dcall g (dargs.toList ++ captured.toList) u) σ with
              | er e => rw [hrec] at hgo; cases hgo
              | ok o1 =>
                rw [hrec] at hgo
                have hargs : ∀ v ∈ dargs.toList ++ captured.toList, vok ι D v := by
                  intro v hv
                  rcases List.mem_append.1 hv with hv | hv
                  · exact oa v (by simpa using hv)
                  · exact oc v (by simpa using hv)
                have hargs2 : dargs.map (ren ι) ++ captured.map (ren ι) = ((dargs.toList ++ captured.toList).map (ren ι)).toArray := by
                  apply Array.ext'
                  simp
                have hS := S _ _ _ hrec ι D w R hargs ou
                refine ⟨.func g, captured.map (ren ι), g, _, rfl, ?_, fun _ _ => trivial, CallsDIn.mono hS ?_⟩
                · simp only [renD, renF, invoke]
                  rw [hargs2]
                  exact run_call_body hP hnm hb
                · rintro e' u₁ w₁ ⟨e, u₂, σ₂, ι₂, D₂, rfl, R₂, g₂, x₂, ou₂, rfl⟩
                  have rest : ∀ u₃, leaveA cx rec fn T ds u₃ σ₂ = .ok out → okU ι₂ D₂ u₃ → u₃ ≠ .run → LeavesInM Fence.wide 0 cx.P fn tmps Rf (ds.map (renD ι)) (renU ι₂ u₃) w₁ := by
                    intro u₃ h₃ o₃ n₃
                    have hds : ds.map (renD ι) = ds.map (renD ι₂) := List.map_congr_left fun d hd => ((renD_ext g₂.ext (od d (by simp [hd]))).1).symm
                    rw [hds]
                    exact leave_sound S ok ds u₃ σ₂ ι₂ D₂ w₁ h₃ R₂ (t.ext g₂.ext) (fun d hd => (renD_ext g₂.ext (od d (by simp [hd]))).2) o₃ n₃ (fun e' w' hp => hR e' w' (hp.trans g₂))
                  simp only [backD] at hgo
                  cases e with
                  | returned v =>
                    obtain ⟨_, rfl⟩ := x₂
                    obtain ⟨q1, q2⟩ := settle_ren u₂ ou₂
                    obtain ⟨hs, rfl, rfl⟩ := goU_ok hgo
                    simp only
                    rw [q1]
                    exact rest _ h q2 hs
                  | panicked c =>
                    obtain ⟨oc', rfl⟩ := x₂
                    cases hgo
                    obtain ⟨q1, q2⟩ := raised_ren u₂ c ou₂ oc'
                    simp only
                    rw [q1]
                    exact rest _ h q2 (by cases u₂ <;> simp [raised])
                  | outgrown => exact x₂.elim
          · cases hgo
        · cases h
      | _ => simp only [leaveD] at h; cases h
    | _ => simp only [leaveD] at h; cases h

/-! ### Calls -/

theorem fillT_sound : ∀ (vs : List Value) (i : Nat) {T : Tr Value} {n : Nat} {tmps : Array Value}, TR ι D T n tmps → i + vs.length ≤ n → (∀ v ∈ vs, vok ι D v) →
    (∀ j v, vs[j]? = some v → tmps[i + j]? = some (ren ι v)) → TR ι D (fillT vs i T) n tmps
  | [], i, T, n, tmps, t, _, _, _ => by simpa [fillT] using t
  | v :: vs, i, T, n, tmps, t, hl, hv, hg => by
    simp only [fillT]
    have hm := t.most
    unfold mostT at hm
    have hp := deepT_pow
    simp only [List.length_cons] at hl
    refine fillT_sound vs (i + 1) ⟨full_set t.full _ _, t.size, t.most, fun k u hk => ?_⟩ (by omega) (fun u hu => hv u (by simp [hu])) (fun j u hu => by
      have := hg (j + 1) u (by simpa using hu)
      rwa [show i + (j + 1) = i + 1 + j by omega] at this)
    rw [get_set t.full _ _ _ (by omega)] at hk
    split at hk
    · rename_i e
      cases hk
      subst e
      exact ⟨by simpa using hg 0 v (by simp), hv v (by simp)⟩
    · exact t.all k u hk

theorem start_sound {n : Nat} {args : List Value} (h1 : n ≤ mostT) (h2 : args.length ≤ n) (ha : ∀ v ∈ args, vok ι D v) :
    AR ι D (startA n args) { tmps := (args.map (ren ι)).toArray ++ Array.replicate (n - (args.map (ren ι)).toArray.size) undef, defers := [] } := by
  refine ⟨?_, rfl, by simp [startA]⟩
  have t0 : TR ι D (Tr.blank deepT) n ((args.map (ren ι)).toArray ++ Array.replicate (n - (args.map (ren ι)).toArray.size) undef) :=
    ⟨full_blank _, by simp; omega, h1, fun k v hk => by rw [get_blank] at hk; cases hk⟩
  refine fillT_sound args 0 t0 (by rw [Nat.zero_add]; exact h2) ha (fun j v hj => ?_)
  have hjl := (List.getElem?_eq_some_iff.1 hj).1
  rw [Nat.zero_add, Array.getElem?_append_left (by simpa using hjl)]
  simp [hj]

/-- **A CALL.** -/
theorem call_task (S : Sound cx rec) (ok : CxOk cx) {f : FuncId} {args : List Value} {out : Out} (h : callO cx rec args σ (cx.fn f) = .ok out) : SoundT cx (.call f args) σ out := by
  intro ι D w R ha
  cases hfn : cx.fn f with
  | none => rw [hfn] at h; cases h
  | some fn =>
    rw [hfn] at h
    have hP := ok.fn f fn hfn
    simp only [callO, callC] at h
    cases hb : fn.body with
    | none => rw [hb] at h; cases h
    | some c =>
      rw [hb] at h
      simp only at h
      split at h
      · rename_i hc
        obtain ⟨b1, b2⟩ := and_true hc
        have b1 := ble_le b1; have b2 := ble_le b2
        refine callsIn_of_wp_marks hP hb trivial ?_
        cases hrec : rec (.code none c (startA fn.ntmps args)) σ with
        | er e => rw [hrec] at h; cases h
        | ok o1 =>
          rw [hrec] at h
          have hS := S _ _ _ hrec ι D w R _ (start_sound b1 b2 ha) (fun l hl => by cases hl)
          refine wpIn_mono hS ?_
          rintro e' ac' w' ⟨e, a', σ', ι', D', rfl, R', g', A', x'⟩
          simp only [leaveR] at h
          cases e with
          | normal =>
            cases x'
            show LeavesInM _ _ _ _ _ _ _ _ _
            rw [A'.d]
            exact leave_sound S ok a'.ds .returning σ' ι' D' w' h R' A'.t A'.o trivial (by simp) (fun e w hp => hp.trans g')
          | ret =>
            cases x'
            show LeavesInM _ _ _ _ _ _ _ _ _
            rw [A'.d]
            exact leave_sound S ok a'.ds .returning σ' ι' D' w' h R' A'.t A'.o trivial (by simp) (fun e w hp => hp.trans g')
          | panic ch =>
            obtain ⟨oc, rfl⟩ := x'
            show LeavesInM _ _ _ _ _ _ _ _ _
            rw [A'.d]
            exact leave_sound S ok a'.ds (.panicking ch) σ' ι' D' w' h R' A'.t A'.o oc (by simp) (fun e w hp => hp.trans g')
          | exit id => cases h
          | goto l => cases h
          | outgrown => cases h
      · cases h

/-! ### A deferred call's own code -/

theorem wpSIn_mono {F : Fence} {n : Nat} {P : Program} {c : Code} {Q Q' : Exit → Act → List Frame → World → Prop} {ac : Act} {cs : List Frame} (h : c.wpSIn F n P Q ac cs w) (hq : ∀ e a cs w, Q e a cs w → Q' e a cs w) : c.wpSIn F n P Q' ac cs w :=
  fun b k h1 h2 h3 h4 => let ⟨e, a', cs', w', l, q, r⟩ := h b k h1 h2 h3 h4; ⟨e, a', cs', w', l, hq _ _ _ _ q, r⟩

/-- **A DEFERRED CALL.** -/
theorem dcall_task (S : Sound cx rec) (ok : CxOk cx) {f : FuncId} {args : List Value} {u : FrameMode} {out : Out} (h : callDO cx rec args u σ (cx.fn f) = .ok out) : SoundT cx (.dcall f args u) σ out := by
  intro ι D w R ha ou
  cases hfn : cx.fn f with
  | none => rw [hfn] at h; cases h
  | some fn =>
    rw [hfn] at h
    have hP := ok.fn f fn hfn
    simp only [callDO, callDC] at h
    cases hb : fn.body with
    | none => rw [hb] at h; cases h
    | some c =>
      rw [hb] at h
      simp only at h
      split at h
      · rename_i hc
        obtain ⟨b1, b2⟩ := and_true hc
        have b1 := ble_le b1; have b2 := ble_le b2
        refine callsDIn_of_wpSIn hP hb trivial fun c₀ cs hm => ?_
        cases hrec : rec (.dcode c (startA fn.ntmps args) u) σ with
        | er e => rw [hrec] at h; cases h
        | ok o1 =>
          rw [hrec] at h
          have hS := S _ _ _ hrec ι D w R _ c₀ cs (start_sound b1 b2 ha) ou hm
          refine wpSIn_mono hS ?_
          rintro e' ac' cs' w' ⟨u', rfl, e, a', u₁, σ', ι', D', rfl, R', g', A', x', ou', rfl⟩
          simp only [leaveDR, leaveDE] at h
          split at h
          · rename_i hds
            have hd : ac'.defers = [] := by rw [A'.d, hds]; rfl
            have back : ∀ vs, resultsA cx σ' a'.T fn.results.toList = .ok vs → out = .dcall (.returned (resultOf vs)) u₁ σ' →
                ac'.defers = [] ∧ ∃ u'', { c₀ with mode := renU ι' u₁ } :: cs = { c₀ with mode := u'' } :: cs ∧ ∃ v, (Go.results fn ac'.tmps).run cx.P w' = .ok v w' ∧ PostDcall ι D σ w out (.returned v) u'' w' := by
              intro vs hr ho
              obtain ⟨k1, k2⟩ := results_sound (fn := fn) ok R' A'.t hr
              exact ⟨hd, _, rfl, _, k1, _, u₁, σ', ι', D', ho, R', g', ⟨k2, rfl⟩, ou', rfl⟩
            have two : retD u₁ σ' (resultsA cx σ' a'.T fn.results.toList) = .ok out → ∃ vs, resultsA cx σ' a'.T fn.results.toList = .ok vs ∧ out = .dcall (.returned (resultOf vs)) u₁ σ' := by
              intro h
              cases hr : resultsA cx σ' a'.T fn.results.toList with
              | er e => rw [hr] at h; cases h
              | ok vs => rw [hr] at h; simp only [retD] at h; cases h; exact ⟨vs, rfl, rfl⟩
            cases e with
            | normal => cases x'; obtain ⟨vs, q1, q2⟩ := two h; exact back vs q1 q2
            | ret => cases x'; obtain ⟨vs, q1, q2⟩ := two h; exact back vs q1 q2
            | panic ch =>
              obtain ⟨oc, rfl⟩ := x'
              cases h
              exact ⟨hd, _, rfl, _, u₁, σ', ι', D', rfl, R', g', ⟨oc, rfl⟩, ou', rfl⟩
            | exit id => cases h
            | goto l => cases h
            | outgrown => cases h
          · cases h
      · cases h

end
end
end Go.VI
