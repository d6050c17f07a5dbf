/-
  VI: what a task is said to come to; what acts.
-/
import Derived.Test.YtkfdjlhjeclcbaaGreatDoorViApp
import Derived.RangeFuncLeaves
import Derived.RangeFuncCalls
namespace Go.VI
open Go
noncomputable section

/-! ### Panics, endings, ways out -/

def renP (ι : Emb) (p : PanicEntry) : PanicEntry := { p with v := ren ι p.v }

def okC (ι : Emb) (D : Nat → Prop) (c : List PanicEntry) : Prop := ∀ p ∈ c, vok ι D p.v

def renU (ι : Emb) : FrameMode → FrameMode
  | .panicking c => .panicking (c.map (renP ι))
  | u => u

def okU (ι : Emb) (D : Nat → Prop) : FrameMode → Prop
  | .panicking c => okC ι D c
  | _ => True

/-- A way out, and what the machine's is. -/
def XR (ι : Emb) (D : Nat → Prop) (e e' : Exit) : Prop :=
  match e with
  | .panic c => okC ι D c ∧ e' = .panic (c.map (renP ι))
  | .outgrown => False
  | e => e' = e

def ER (ι : Emb) (D : Nat → Prop) (e e' : Ending) : Prop :=
  match e with
  | .returned v => vok ι D v ∧ e' = .returned (ren ι v)
  | .panicked c => okC ι D c ∧ e' = .panicked (c.map (renP ι))
  | .outgrown => False

theorem okC_ext {ι ι' : Emb} {D D' : Nat → Prop} (h : Ext ι D ι' D') {c : List PanicEntry} (o : okC ι D c) : c.map (renP ι') = c.map (renP ι) ∧ okC ι' D' c :=
  ⟨List.map_congr_left fun p hp => by simp only [renP, h.ren (o p hp)], fun p hp => h.vok (o p hp)⟩

theorem okU_ext {ι ι' : Emb} {D D' : Nat → Prop} (h : Ext ι D ι' D') {u : FrameMode} (o : okU ι D u) : renU ι' u = renU ι u ∧ okU ι' D' u := by
  cases u with
  | panicking c => exact ⟨by simp only [renU, (okC_ext h o).1], (okC_ext h o).2⟩
  | _ => exact ⟨rfl, trivial⟩

theorem XR.ext {ι ι' : Emb} {D D' : Nat → Prop} (h : Ext ι D ι' D') {e e' : Exit} (x : XR ι D e e') : XR ι' D' e e' := by
  cases e with
  | panic c => obtain ⟨h1, h2⟩ := x; exact ⟨(okC_ext h h1).2, by rw [(okC_ext h h1).1]; exact h2⟩
  | _ => exact x

/-! ### What a task comes to -/

/-- The fence of a round's code, or of a call's. -/
def fenceOf (ι : Emb) (rd : Option Nat) : Fence :=
  match rd with
  | none => Fence.wide
  | some l => Fence.wide.inRound (ι l).blk

theorem fenceOf_fn (ι : Emb) (rd : Option Nat) (f : FuncId) : (fenceOf ι rd).fn f := by cases rd <;> trivial
theorem fenceOf_depth (ι : Emb) (rd : Option Nat) : (fenceOf ι rd).depth.isSome = false := by cases rd <;> rfl

/-- The round whose code it is, if any. -/
def okR (D : Nat → Prop) (rd : Option Nat) : Prop := ∀ l, rd = some l → D l

theorem fenceOf_ext {ι ι' : Emb} {D D' : Nat → Prop} (h : Ext ι D ι' D') {rd : Option Nat} (o : okR D rd) : fenceOf ι' rd = fenceOf ι rd := by
  cases rd with
  | none => rfl
  | some l => simp only [fenceOf, h.em l (o l rfl)]

def PostCode (ι : Emb) (D : Nat → Prop) (σ : Mem) (w : World) (out : Out) (e' : Exit) (ac' : Act) (w' : World) : Prop :=
  ∃ e a' σ' ι' D', out = .code e a' σ' ∧ Rel ι' D' σ' w' ∧ Go1 ι D σ w ι' D' σ' w' ∧ AR ι' D' a' ac' ∧ XR ι' D' e e'

def PostCall (ι : Emb) (D : Nat → Prop) (σ : Mem) (w : World) (out : Out) (e' : Ending) (w' : World) : Prop :=
  ∃ e σ' ι' D', out = .call e σ' ∧ Rel ι' D' σ' w' ∧ Go1 ι D σ w ι' D' σ' w' ∧ ER ι' D' e e'

def PostDcode (ι : Emb) (D : Nat → Prop) (σ : Mem) (w : World) (out : Out) (e' : Exit) (ac' : Act) (u' : FrameMode) (w' : World) : Prop :=
  ∃ e a' u σ' ι' D', out = .dcode e a' u σ' ∧ Rel ι' D' σ' w' ∧ Go1 ι D σ w ι' D' σ' w' ∧ AR ι' D' a' ac' ∧ XR ι' D' e e' ∧ okU ι' D' u ∧ u' = renU ι' u

def PostDcall (ι : Emb) (D : Nat → Prop) (σ : Mem) (w : World) (out : Out) (e' : Ending) (u' : FrameMode) (w' : World) : Prop :=
  ∃ e u σ' ι' D', out = .dcall e u σ' ∧ Rel ι' D' σ' w' ∧ Go1 ι D σ w ι' D' σ' w' ∧ ER ι' D' e e' ∧ okU ι' D' u ∧ u' = renU ι' u

/-- **WHAT IS SAID OF A TASK.** -/
def SoundT (cx : Cx) (t : Task) (σ : Mem) (out : Out) : Prop :=
  ∀ (ι : Emb) (D : Nat → Prop) (w : World), Rel ι D σ w →
  match t with
  | .code rd c a => ∀ ac : Act, AR ι D a ac → okR D rd → c.wpIn (fenceOf ι rd) 0 cx.P (PostCode ι D σ w out) ac w
  | .call f args => (∀ v ∈ args, vok ι D v) → CallsIn Fence.wide 0 cx.P f (args.map (ren ι)).toArray w (PostCall ι D σ w out)
  | .dcall f args u => (∀ v ∈ args, vok ι D v) → okU ι D u → CallsDIn Fence.wide 0 cx.P f (args.map (ren ι)).toArray (renU ι u) w (PostDcall ι D σ w out)
  | .dcode c a u => ∀ (ac : Act) (c0 : Frame) (cs : List Frame), AR ι D a ac → okU ι D u → c0.mode = renU ι u →
      c.wpSIn Fence.wide 0 cx.P (fun e' ac' cs' w' => ∃ u', cs' = { c0 with mode := u' } :: cs ∧ PostDcode ι D σ w out e' ac' u' w') ac (c0 :: cs) w

def Sound (cx : Cx) (rec : Rec) : Prop := ∀ t σ out, rec t σ = .ok out → SoundT cx t σ out

section
variable {cx : Cx} {rec : Rec} {ι ι' : Emb} {D D' : Nat → Prop} {σ : Mem} {w w' : World}

/-! ### The library's own -/

theorem clone_eq (t : TypeId) (r : Nat) : Extern.MapsClone.clone #[.iface t (.map (some r))] = (do
    let .map entries clock ← getObj r | stuck "maps.clone: a map expected"
    pure (.iface t (.map (some (← newObj (.map entries clock)))))) := rfl

theorem index_eq (b c : Value) : Extern.BytealgIndexByte.indexByte #[b, c] = (do
    let b ← Extern.Bytes.bytesOf b
    let c ← Extern.Bytes.asByte c
    match (List.range b.size).find? fun i => b[i]! == c with
    | some i => pure (goInt i)
    | none => pure (goInt (-1))) := rfl

theorem clone_sound (R : Rel ι D σ w) (hm : σ.next + 4 ≤ most) {args : List Value} {v : Value} {σ' : Mem} (ha : ∀ v ∈ args, vok ι D v) (h : cloneA σ args = .ok (v, σ')) :
    ∃ ι' D' w', (Extern.MapsClone.clone (args.map (ren ι)).toArray).run cx.P w = .ok (ren ι' v) w' ∧ Rel ι' D' σ' w' ∧ Go1 ι D σ w ι' D' σ' w' ∧ vok ι' D' v := by
  unfold cloneA at h
  split at h
  · rename_i t r
    split at h
    · rename_i es clock hmb
      have hmb := mapB_ok hmb
      cases h
      obtain ⟨hD, hobj, hent⟩ := R.live r _ hmb
      have hid : ¬ D σ.next := fun hD => Nat.lt_irrefl _ (R.next _ hD)
      have hx := upd_ext (ι := ι) (e := ⟨w.heap.size, 0, 0⟩) hid
      obtain ⟨k1, k2⟩ := alloc_block (obj := .map (es.map (renE ι)).toArray clock) R (by omega) (blk := .map es clock) rfl (BR_mono hx (w := w.alloc (.map (es.map (renE ι)).toArray clock)) (fun _ => rfl) ⟨alloc_new _, hent⟩)
      refine ⟨_, _, _, ?_, k1, k2, ?_⟩
      · simp only [List.map_cons, List.map_nil, ren, upd_same]
        rw [clone_eq]
        simp only [Sem.run_bind, MapKept.run_getObj_map hobj, Result.andThen_ok, run_newObj, Sem.run_pure]
        rfl
      · simp only [vok]
        exact .inr rfl
    · cases h
  · cases h

theorem byteAt_find (c : Nat) : ∀ (l : List UInt8) (i : Nat), byteAt c l i = ((List.range l.length).find? fun j => (l[j]!).toNat == c).map (· + i)
  | [], i => rfl
  | b :: r, i => by
    simp only [byteAt, List.length_cons, List.range_succ_eq_map, List.find?_cons]
    cases hb : Nat.beq b.toNat c with
    | true =>
      have := beq_eq hb
      simp [this]
    | false =>
      have hne : ¬ (b.toNat = c) := fun h => by rw [h, Nat.beq_refl] at hb; cases hb
      have ih := byteAt_find c r (i + 1)
      simp only [List.getElem!_cons_zero, ih, List.find?_map]
      simp only [beq_eq_false_iff_ne.2 hne, Option.map_map]
      congr 1
      funext j
      simp only [Function.comp]
      omega

theorem index_sound' {args : List Value} {v : Value} {σ' : Mem} (h : indexByteA σ args = .ok (v, σ')) :
    σ' = σ ∧ (Extern.BytealgIndexByte.indexByte (args.map (ren ι)).toArray).run cx.P w = .ok (ren ι v) w ∧ vok ι D v := by
  unfold indexByteA at h
  split at h
  · rename_i s c
    split at h
    · rename_i hc
      have hc := ble_le hc
      cases h
      refine ⟨rfl, ?_, by unfold placeV; split <;> simp [vok]⟩
      have hb := byteAt_find c s.data.toList 0
      simp only [List.map_cons, List.map_nil, ren]
      rw [index_eq]
      simp only [Extern.Bytes.bytesOf, Extern.Bytes.asByte, Sem.run_bind, Sem.run_pure, Result.andThen_ok]
      have hf : (List.range s.size).find? (fun i => s[i]! == (Int.ofNat c).toNat.toUInt8) = (List.range s.data.toList.length).find? fun j => (s.data.toList[j]!).toNat == c := by
        have h1 : s.size = s.data.toList.length := by simp
        rw [h1]
        congr 1
        funext i
        have h2 : s[i]! = s.data.toList[i]! := by
          by_cases h : i < s.size
          · rw [getElem!_pos s i h]
            have h' : i < s.data.toList.length := by simpa using h
            rw [getElem!_pos s.data.toList i h']
            rfl
          · rw [getElem!_neg s i h]
            have h' : ¬ i < s.data.toList.length := by simpa using h
            rw [getElem!_neg s.data.toList i h']
        rw [h2]
        generalize s.data.toList[i]! = x
        rw [Bool.eq_iff_iff]
        simp only [beq_iff_eq]
        constructor
        · rintro rfl
          simp
          omega
        · rintro rfl
          simp
      rw [hf]
      cases hq : (List.range s.data.toList.length).find? (fun j => (s.data.toList[j]!).toNat == c) with
      | none => rw [hb, hq]; simp [placeV, goInt, ren]
      | some j => rw [hb, hq]; simp [placeV, goInt, ren]
    · cases h
  · cases h

theorem ren_undef : ren ι undef = undef := by simp [undef, ren]
theorem vok_undef : vok ι D undef := by simp [undef, vok]

theorem same_act {a : Ac} {ac : Act} (hx : Ext ι D ι' D') (hd : ac.defers = a.ds.map (renD ι)) (ho : ∀ d ∈ a.ds, okD ι D d) :
    ({ ac with defers := a.ds.map (renD ι') } : Act) = ac ∧ ∀ d ∈ a.ds, okD ι' D' d := by
  refine ⟨?_, fun d h => (renD_ext hx (ho d h)).2⟩
  rw [List.map_congr_left fun d h => (renD_ext hx (ho d h)).1, ← hd]

/-! ### What acts -/

/-- What one operation that acts is to come to. -/
structure Acts (cx : Cx) (ι : Emb) (D : Nat → Prop) (σ : Mem) (w : World) (a : Ac) (ac : Act) (dst : Option Tmp) (r : Ho) (next : Act → World → Prop) (Q : Exit → Act → World → Prop) : Prop where
  go : ∀ v ds' σ' ι' D' w', r = fin { a with ds := ds' } dst v σ' → Rel ι' D' σ' w' → Go1 ι D σ w ι' D' σ' w' → vok ι' D' v → (∀ d ∈ ds', okD ι' D' d) →
    next (({ ac with defers := ds'.map (renD ι') } : Act).put dst (ren ι' v)) w'
  pa : ∀ c σ' ι' D' w', r = .panic c a σ' → Rel ι' D' σ' w' → Go1 ι D σ w ι' D' σ' w' → okC ι' D' c → Q (.panic (c.map (renP ι'))) ac w'
  ne : ∀ why, r ≠ .er why

/-- A value, the deferred calls as they were. -/
theorem Acts.val {a : Ac} {ac : Act} {dst : Option Tmp} {r : Ho} {next : Act → World → Prop} {Q : Exit → Act → World → Prop} (A : Acts cx ι D σ w a ac dst r next Q)
    (hd : ac.defers = a.ds.map (renD ι)) (ho : ∀ d ∈ a.ds, okD ι D d) {v : Value} {σ' : Mem} (hr : r = fin a dst v σ') (R' : Rel ι' D' σ' w') (g : Go1 ι D σ w ι' D' σ' w') (hv : vok ι' D' v) :
    next (ac.put dst (ren ι' v)) w' := by
  obtain ⟨h1, h2⟩ := same_act g.ext hd ho
  have := A.go v a.ds σ' ι' D' w' hr R' g hv h2
  rwa [h1] at this

theorem back_ok {a : Ac} {dst : Option Tmp} {r : Rs (Value × Mem)} (h : ∀ why, backV a dst r ≠ .er why) : ∃ v σ', r = .ok (v, σ') ∧ backV a dst r = fin a dst v σ' := by
  unfold backV at h ⊢
  cases r with
  | ok p => exact ⟨p.1, p.2, rfl, rfl⟩
  | er why => exact (h why rfl).elim

theorem memR_ok {a : Ac} {dst : Option Tmp} {r : Rs Mem} (h : ∀ why, memR a dst r ≠ .er why) : ∃ σ', r = .ok σ' ∧ memR a dst r = fin a dst undef σ' := by
  unfold memR at h ⊢
  cases r with
  | ok p => exact ⟨p, rfl, rfl⟩
  | er why => exact (h why rfl).elim

theorem room_ok {r : Ho} (h : ∀ why, room σ r ≠ .er why) : σ.next + 4 ≤ most ∧ room σ r = r := by
  unfold room at h ⊢
  split at h
  · rename_i hb; exact ⟨ble_le hb, rfl⟩
  · exact (h _ rfl).elim

/-- Whom a call comes to. -/
theorem whom_ok {T : Tr Value} {f : Operand} {args : List Operand} {m : Whom} (h : whom T f args = .ok m) :
    ∃ fn first captured vs, evalO T f = .ok (.func fn first captured) ∧ evalL T args = .ok vs ∧
      ((∃ g, fn = .func g ∧ m = .fn g (first.toList ++ vs ++ captured.toList)) ∨ ∃ l, fn = .yield l ∧ m = .round l (first.toList ++ vs)) := by
  unfold whom at h
  cases hf : evalO T f with
  | er e => rw [hf] at h; cases h
  | ok fv =>
    rw [hf] at h
    simp only [whomL] at h
    cases hl : evalL T args with
    | er e => rw [hl] at h; cases h
    | ok vs =>
      rw [hl] at h
      simp only [whomV] at h
      split at h
      · rename_i fn first captured
        refine ⟨fn, first, captured, vs, rfl, rfl, ?_⟩
        unfold whomF at h
        split at h
        · cases h; exact .inl ⟨_, rfl, rfl⟩
        · cases h; exact .inr ⟨_, rfl, rfl⟩
        · cases h
      · cases h

theorem run_call_body {P : Program} {g : FuncId} {fn : Func} {c : Code} {args : Array Value} (h1 : P.funcs[g]? = some fn) (h2 : (fn.name == "runtime.NumGoroutine") = false) (h3 : fn.body = some c) :
    (callFunc g args).run P w = .ok (.enter g args) w := by
  have h2' : ¬ fn.name = "runtime.NumGoroutine" := by simpa using h2
  simp [callFunc, h1, h2', h3]

theorem run_call_ext {P : Program} {g : FuncId} {fn : Func} {args : Array Value} {e : Array Value → Sem Value} (h1 : P.funcs[g]? = some fn) (h2 : (fn.name == "runtime.NumGoroutine") = false) (h3 : fn.body = none)
    (h4 : Extern.findNext fn = none) (h5 : Extern.find fn = some e) {v : Value} (h6 : (e args).run P w = .ok v w') : (callFunc g args).run P w = .ok (.value v) w' := by
  have h2' : ¬ fn.name = "runtime.NumGoroutine" := by simpa using h2
  simp [callFunc, h1, h2', h3, h4, h5, h6]

/-! ### A round -/

theorem roundT_sound : ∀ (ps : List Tmp) (vs : List Value) {T : Tr Value} {nt : Nat} {tmps : Array Value}, TR ι D T nt tmps → allBelow nt ps = true → (∀ v ∈ vs, vok ι D v) →
    TR ι D (roundT ps vs T) nt ((ps.zip (vs.map (ren ι))).foldl (fun tmps (p : Tmp × Value) => tmps.setIfInBounds p.1 p.2) tmps)
  | [], _, T, nt, tmps, t, _, _ => by simpa [roundT] using t
  | p :: ps, [], T, nt, tmps, t, _, _ => by simpa [roundT] using t
  | p :: ps, v :: vs, T, nt, tmps, t, hb, hv => by
    simp only [allBelow] at hb
    obtain ⟨h1, h2⟩ := and_true hb
    simp only [roundT, List.map_cons, List.zip_cons_cons, List.foldl_cons]
    exact roundT_sound ps vs (t.set (ble_le h1) (hv v (by simp))) h2 (fun u hu => hv u (by simp [hu]))

theorem fence_round (ι : Emb) (rd : Option Nat) (l : Nat) : (fenceOf ι rd).inRound (ι l).blk = fenceOf ι (some l) := by cases rd <;> rfl

theorem loopB_ok {b : Option Blk} {r : Lp} (h : loopB b = some r) : b = some (.loop r) := by
  unfold loopB at h
  split at h
  · cases h; rfl
  · cases h

/-- A record is changed. -/
theorem putLoop_sound (R : Rel ι D σ w) {l : Nat} {r : Lp} (hl : σ.h.get l = some (.loop r)) {st : LoopState} {pend : Option Code} {L : Loop} (hL : w.heap[(ι l).blk]? = some (.loop L)) (hr : LR ι D r L) :
    Rel ι D { σ with h := σ.h.set l (some (.loop { r with st := st, pend := pend })) } (w.putObj (ι l).blk (.loop { L with state := st, pending := pend })) ∧
    Go1 ι D σ w ι D { σ with h := σ.h.set l (some (.loop { r with st := st, pend := pend })) } (w.putObj (ι l).blk (.loop { L with state := st, pending := pend })) :=
  poke_sound R hl rfl rfl rfl rfl (fun k hk => World.putObj_heap_other hk) (by simp) rfl rfl rfl
    ⟨_, World.putObj_heap_same (Array.getElem?_eq_some_iff.1 hL).1, rfl, rfl, hr.params, hr.asg, hr.body, hr.defers, hr.dom, hr.t⟩

theorem setState_sound (R : Rel ι D σ w) {l : Nat} {r : Lp} (hl : σ.h.get l = some (.loop r)) {st : LoopState} {L : Loop} (hL : w.heap[(ι l).blk]? = some (.loop L)) (hr : LR ι D r L) :
    Rel ι D { σ with h := σ.h.set l (some (.loop { r with st := st })) } (w.putObj (ι l).blk (.loop { L with state := st })) ∧
    Go1 ι D σ w ι D { σ with h := σ.h.set l (some (.loop { r with st := st })) } (w.putObj (ι l).blk (.loop { L with state := st })) :=
  poke_sound R hl rfl rfl rfl rfl (fun k hk => World.putObj_heap_other hk) (by simp) rfl rfl rfl
    ⟨_, World.putObj_heap_same (Array.getElem?_eq_some_iff.1 hL).1, rfl, hr.pend, hr.params, hr.asg, hr.body, hr.defers, hr.dom, hr.t⟩

theorem endRound_sound (R : Rel ι D σ w) {l : Nat} {j : Option Code} {v : Value} {σ' : Mem} (h : endRoundA l (some j) σ (loopB (σ.h.get l)) = .ok (v, σ')) :
    ∃ w', (Instr.endRound (ι l).blk j).run cx.P w = .ok (ren ι v) w' ∧ Rel ι D σ' w' ∧ Go1 ι D σ w ι D σ' w' ∧ vok ι D v := by
  simp only [endRoundA] at h
  cases hlb : loopB (σ.h.get l) with
  | none => rw [hlb] at h; cases h
  | some r =>
    rw [hlb] at h
    have hl := loopB_ok hlb
    obtain ⟨hD, L, hL, hr⟩ := R.live l _ hl
    simp only [endJ] at h
    cases h
    have key := putLoop_sound (st := match j with | none => .ready | some _ => .done) (pend := j) R hl hL hr
    refine ⟨_, ?_, key.1, key.2, by simp [vok]⟩
    rw [run_endRound j hL]
    cases j <;> simp [ren]

theorem round_sound (S : Sound cx rec) (R : Rel ι D σ w) {rd : Option Nat} {l : Nat} {args : List Value} {v : Value} {σ' : Mem} (ha : ∀ v ∈ args, vok ι D v) (h : roundA rec l args σ (loopB (σ.h.get l)) = .ok (v, σ')) :
    ∃ fn tmps asg body, (Instr.yield (ι l).blk (args.map (ren ι)).toArray).run cx.P w = .ok (.round (ι l).blk fn tmps asg body) w ∧
      RoundIn (fenceOf ι rd) 0 cx.P (ι l).blk fn tmps asg body w (fun e' w' => ∃ ι' D', Rel ι' D' σ' w' ∧ Go1 ι D σ w ι' D' σ' w' ∧ vok ι' D' v ∧ e' = .returned (ren ι' v)) := by
  unfold roundA at h
  cases hlb : loopB (σ.h.get l) with
  | none => rw [hlb] at h; cases h
  | some r =>
    rw [hlb] at h
    have hl := loopB_ok hlb
    obtain ⟨hD, L, hL, hr⟩ := R.live l _ hl
    simp only [roundR] at h
    split at h
    · rename_i hb
      obtain ⟨b1, b2⟩ := and_true hb
      have b1 := beq_eq b1
      have hps : L.params = r.params.toArray := by rw [← hr.params]
      refine ⟨_, _, _, _, run_yield hL (by rw [hps]; simpa using b1), ?_⟩
      have hz : (L.params.zip (args.map (ren ι)).toArray).foldl (fun tmps (x : Tmp × Value) => tmps.setIfInBounds x.1 x.2) L.tmps =
          (r.params.zip (args.map (ren ι))).foldl (fun tmps (p : Tmp × Value) => tmps.setIfInBounds p.1 p.2) L.tmps := by
        rw [hps]
        simp
      have hT := roundT_sound r.params args hr.t b2 ha
      rw [← hz] at hT
      refine roundIn_of_wpIn (fenceOf_fn _ _ _) ?_
      rw [fence_round, hr.asg, hr.body]
      cases hout : rec (.code (some l) r.asg ⟨roundT r.params args r.T, r.nt, []⟩) σ with
      | er e => rw [hout] at h; cases h
      | ok out =>
        rw [hout] at h
        have hS := S _ _ _ hout ι D w R { tmps := _, defers := [] } ⟨hT, rfl, by simp⟩ (fun l' hl' => by cases hl'; exact hD)
        refine wpIn_mono hS ?_
        rintro e₁ ac₁ w₁ ⟨e, a₁, σ₁, ι₁, D₁, rfl, R₁, g₁, A₁, x₁⟩
        cases e <;> simp only [afterAsg] at h <;> try (cases h; done)
        cases x₁
        show ∃ w₂, _
        unfold beginA at h
        cases hl1 : loopB (σ₁.h.get l) with
        | none => rw [hl1] at h; cases h
        | some r₁ =>
          rw [hl1] at h
          have hl1 := loopB_ok hl1
          simp only at h
          split at h
          · rename_i hrd
            have he : ι₁ l = ι l := g₁.ext.em l hD
            obtain ⟨hD1, L1, hL1, hr1⟩ := R₁.live l _ hl1
            have hst : L1.state = .ready := by
              rw [hr1.st]
              unfold isReady at hrd
              split at hrd
              · assumption
              · cases hrd
            obtain ⟨R₂, g₂⟩ := setState_sound (st := .busy) R₁ hl1 hL1 hr1
            have hL1' := hL1
            rw [he] at hL1' R₂ g₂
            refine ⟨_, run_beginRound hL1' hst, ?_⟩
            cases hout2 : rec (.code (some l) r.body a₁) { σ₁ with h := σ₁.h.set l (some (.loop { r₁ with st := .busy })) } with
            | er e => rw [hout2] at h; cases h
            | ok out2 =>
              rw [hout2] at h
              have hS2 := S _ _ _ hout2 ι₁ D₁ _ R₂ ac₁ A₁ (fun l' hl' => by cases hl'; exact hD1)
              rw [show fenceOf ι₁ (some l) = fenceOf ι (some l) by simp [fenceOf, he]] at hS2
              refine wpIn_mono hS2 ?_
              rintro e₂ ac₂ w₂ ⟨e, a₂, σ₂, ι₂, D₂, rfl, R₃, g₃, A₃, x₃⟩
              have he2 : ι₂ l = ι l := (g₃.ext.em l hD1).trans he
              have hg := g₁.trans (g₂.trans g₃)
              have last : ∀ j, endRoundA l (some j) σ₂ (loopB (σ₂.h.get l)) = .ok (v, σ') → ∃ v' w', (Instr.endRound (ι l).blk j).run cx.P w₂ = .ok v' w' ∧
                  ∃ ι' D', Rel ι' D' σ' w' ∧ Go1 ι D σ w ι' D' σ' w' ∧ vok ι' D' v ∧ (Ending.returned v') = .returned (ren ι' v) := by
                intro j hj
                obtain ⟨w', k1, k2, k3, k4⟩ := endRound_sound (cx := cx) R₃ hj
                rw [he2] at k1
                exact ⟨_, w', k1, ι₂, D₂, k2, hg.trans k3, k4, rfl⟩
              simp only [afterBody] at h
              cases e with
              | normal => cases x₃; exact last _ h
              | ret => cases x₃; exact last _ h
              | exit id => cases x₃; exact last _ h
              | goto t => cases x₃; exact last _ h
              | panic c => cases h
              | outgrown => cases x₃
          · cases h
    · cases h

end
end
end Go.VI
