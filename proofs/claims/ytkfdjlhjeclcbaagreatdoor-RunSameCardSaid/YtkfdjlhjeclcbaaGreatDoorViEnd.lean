/-
  VI: every step, every run; a call.
-/
import Derived.Test.YtkfdjlhjeclcbaaGreatDoorViAll
namespace Go.VI
open Go
noncomputable section

section
variable {cx : Cx} {rec : Rec} {ι ι' : Emb} {D D' : Nat → Prop} {σ σ' : Mem} {w w' : World} {a : Ac} {ac : Act} {rd : Option Nat}

/-- The tape's place alone. -/
theorem Go1.drew (h : w'.heap = w.heap) (ht : w'.tape = w.tape) (ho : w'.os = w.os) (hp : w'.output = w.output) : Go1 ι D σ w ι D σ w' :=
  ⟨Ext.refl _ _, fun _ h => .inl h, Nat.le_refl _, by rw [h]; exact Nat.le_refl _, fun _ _ _ => by rw [h], fun B b hb hw => .inr ⟨B, b, hb, hw, id, rfl⟩, fun B b hb => .inr ⟨b, hb⟩, fun _ _ h => ⟨rfl, h⟩, ht, ho, hp⟩

theorem drawn_code (S : Sound cx rec) (ok : CxOk cx) {id : Nat} {ops : Array Oper} {out : Out} (h : drawnL cx rec rd ops.toList (number ops.toList 0 []) a σ = .ok out) : CodeOk cx rd (.region id ops true) a σ out := by
  intro ι D w R ac A hr
  unfold drawnL at h
  split at h
  · rename_i hok
    refine wpIn_region_any ok.mixed ?_
    have R' : Rel ι D σ { w with drawn := w.drawn + 1 } := R.drew rfl
    have hl : Lst (fun _ => False) ops (Array.replicate ops.size false) := by
      refine ⟨by simp, fun i => ⟨fun h => h.elim, fun h => ?_⟩⟩
      simp [Array.getElem?_replicate] at h
    have Jh : J cx ops ι D σ w 0 [] a σ (fun _ => False) (fun _ => none) ι D ac { w with drawn := w.drawn + 1 } :=
      ⟨fun _ h => h.elim, fun _ _ h => h.elim, fun p _ h => (by rw [bit_zero] at h; cases h), R.full, R', Go1.drew rfl rfl rfl rfl, A.d, A.o, A.t.full, A.t.size, A.t.most, fun t v hv _ => A.t.all t v hv,
        fun x hx => (by cases hx), List.Pairwise.nil, fun x hx => (by cases hx), fun x hx => (by cases hx), fun x hx => (by cases hx), fun x hx => (by cases hx), fun x hx => (by cases hx), fun p _ h => (by rw [bit_zero] at h; cases h)⟩
    exact drawn_sound S ok hok hr _ 0 [] a σ (fun i h => by rw [bit_zero] at h; cases h) h ops.size _ _ ι D ac _ _ Jh hl (by
      unfold unlisted
      simp)
  · cases h

/-- **EVERY STEP.** -/
theorem step_sound (S : Sound cx rec) (ok : CxOk cx) : Sound cx (step cx rec) := by
  intro t σ out h
  cases t with
  | code rd c a =>
    have key : codeA cx rec rd a σ c = .ok out → CodeOk cx rd c a σ out := by
      intro h
      cases c with
      | skip =>
        cases h
        intro ι D w R ac A hr
        exact wpIn_skip ⟨.normal, a, σ, ι, D, rfl, R, Go1.refl _ _ _ _, A, rfl⟩
      | label l =>
        cases h
        intro ι D w R ac A hr
        exact wpIn_label ⟨.normal, a, σ, ι, D, rfl, R, Go1.refl _ _ _ _, A, rfl⟩
      | region id ops draw =>
        cases draw with
        | false => exact region_code S ok h
        | true => exact drawn_code S ok h
      | seq x y => exact seq_code S h
      | cond c x y => exact cond_code S h
      | block id x => exact block_code S h
      | loop x => exact loop_code (n := 1000000) S h
      | exit id =>
        cases h
        intro ι D w R ac A hr
        exact wpIn_exit ⟨.exit id, a, σ, ι, D, rfl, R, Go1.refl _ _ _ _, A, rfl⟩
      | goto l =>
        cases h
        intro ι D w R ac A hr
        exact wpIn_goto ⟨.goto l, a, σ, ι, D, rfl, R, Go1.refl _ _ _ _, A, rfl⟩
      | ret =>
        cases h
        intro ι D w R ac A hr
        exact wpIn_ret ⟨.ret, a, σ, ι, D, rfl, R, Go1.refl _ _ _ _, A, rfl⟩
      | rangeFunc g ps asg body => exact range_code S ok h
      | scope x => exact scope_code S h
      | refuse w => cases h
    exact fun ι D w R ac A hr => key h ι D w R ac A hr
  | call f args => exact call_task S ok h
  | dcall f args u => exact dcall_task S ok h
  | dcode c a u => exact dcode_task S ok h

theorem run_sound (ok : CxOk cx) : ∀ n, Sound cx (run cx n)
  | 0 => fun t σ out h => by cases h
  | n + 1 => step_sound (run_sound ok n) ok

/-! ### From a memory of nothing but the package-level variables' numbers -/

def mem0 (n : Nat) : Mem := ⟨Tr.blank deep, n, Tr.blank deep⟩

def iota0 : Emb := fun b => ⟨b, 0, 0⟩
def dom0 : Nat → Prop := fun b => b < globs

theorem rel0 (w : World) : Rel iota0 dom0 (mem0 globs) w where
  full := full_blank _
  fullF := full_blank _
  glob g hg := ⟨hg, rfl, rfl⟩
  low := Nat.le_refl _
  next B h := h
  live B b h := by simp only [mem0, get_blank] at h; cases h
  inj B B' b b' h := by simp only [mem0, get_blank] at h; cases h
  fam B cs f s h := by simp only [mem0, get_blank] at h; cases h
  exact B cs f s h := by simp only [mem0, get_blank] at h; cases h
  famN f _ := by simp only [mem0, get_blank]
  bound := by decide

/-- **A CALL OF KNOWN THINGS THAT COMES TO A KNOWN THING**, at whatever world: nothing that lies there changes. -/
theorem calls_closed (ok : CxOk cx) {n : Nat} {f : FuncId} {args : List Value} {v : Value} {σ : Mem} (ha : ∀ x ∈ args, shut x = true) (hv : shut v = true)
    (h : run cx n (.call f args) (mem0 globs) = .ok (.call (.returned v) σ)) (w : World) :
    Calls cx.P f args.toArray w (fun e w' => e = .returned v ∧ w.heap.size ≤ w'.heap.size ∧ (∀ b, b < w.heap.size → w'.heap[b]? = w.heap[b]?) ∧ w'.tape = w.tape ∧ w'.os = w.os ∧ w'.output = w.output) := by
  have hS := run_sound ok n _ _ _ h iota0 dom0 w (rel0 w) (fun x hx => (vok_shut (ha x hx)).2)
  have ha' : args.map (ren iota0) = args := by
    conv => rhs; rw [← List.map_id args]
    exact List.map_congr_left fun x hx => (vok_shut (D := dom0) (ha x hx)).1
  rw [ha'] at hS
  refine Calls.mono (callsIn_wide.1 hS) ?_
  rintro e w' ⟨e', σ', ι', D', h1, R', g', x'⟩
  cases h1
  obtain ⟨_, rfl⟩ := x'
  refine ⟨by rw [(vok_shut (ι := ι') (D := D') hv).1], g'.size, fun b hb => g'.frame b hb fun B blk hB => ?_, g'.tape, g'.os, g'.output⟩
  simp only [mem0, get_blank] at hB
  cases hB

end
end
end Go.VI
