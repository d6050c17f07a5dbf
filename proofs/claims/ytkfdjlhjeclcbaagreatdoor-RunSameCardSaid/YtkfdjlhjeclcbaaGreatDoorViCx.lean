/-
  VI: a program's own tables.
-/
import Derived.Test.YtkfdjlhjeclcbaaGreatDoorViSplit
namespace Go.VI
open Go

noncomputable def cxOf (P : Program) : Cx := ⟨P, fun t => P.types[t]?, fun f => P.funcs[f]?⟩

/-- Which functions a test picks. -/
noncomputable def picked (test : Func → Bool) : Nat → List Func → List Nat
  | _, [] => []
  | i, f :: r => bif test f then i :: picked test (i + 1) r else picked test (i + 1) r

theorem picked_mem {test : Func → Bool} : ∀ (l : List Func) (i k : Nat) (f : Func), l[k]? = some f → test f = true → i + k ∈ picked test i l
  | [], i, k, f, h, _ => by simp at h
  | g :: r, i, k, f, h, ht => by
    cases k with
    | zero =>
      simp only [List.getElem?_cons_zero, Option.some.injEq] at h
      subst h
      simp [picked, ht]
    | succ k =>
      have := picked_mem r (i + 1) k f (by simpa using h) ht
      have e : i + 1 + k = i + (k + 1) := by omega
      rw [e] at this
      unfold picked
      cases test g <;> simp [this]

theorem picked_in {P : Program} {test : Func → Bool} {f : FuncId} {fn : Func} (h : P.funcs[f]? = some fn) (ht : test fn = true) : f ∈ picked test 0 P.funcs.toList := by
  have := picked_mem (test := test) P.funcs.toList 0 f fn (by simpa using h) ht
  simpa using this

noncomputable def isGor (f : Func) : Bool := f.name == "runtime.NumGoroutine"
noncomputable def isClone (f : Func) : Bool := f.name == "maps.clone"
noncomputable def isIndex (f : Func) : Bool := f.name == "internal/bytealg.IndexByteString"

noncomputable def fieldOk (P : Program) (f : Field) : Bool := P.types[f.type]?.isSome

noncomputable def typeOk (P : Program) (t : TypeId) : Bool :=
  match P.underlying t with
  | some (.struct fs) => allP (fieldOk P) fs.toList
  | _ => true

theorem cxOf_ok {P : Program} (hm : P.follows .mixedOrders = true) (hg : picked isGor 0 P.funcs.toList = []) (c i : Nat) (hc : picked isClone 0 P.funcs.toList = [c]) (hi : picked isIndex 0 P.funcs.toList = [i]) {fc fi : Func} (hfc : P.funcs[c]? = some fc) (hfi : P.funcs[i]? = some fi)
    (ec : Extern.findNext fc = none ∧ Extern.find fc = some Extern.MapsClone.clone) (ei : Extern.findNext fi = none ∧ Extern.find fi = some Extern.BytealgIndexByte.indexByte)
    (ht : allP (typeOk P) (List.range P.types.size) = true) : CxOk (cxOf P) where
  info t i h := by
    have h : P.types[t]? = some i := h
    have hlt : t < P.types.size := (Array.getElem?_eq_some_iff.1 h).1
    show P.info? t = some i
    unfold Tables.info?
    rw [if_pos hlt]
    exact h
  fn f fn h := h
  mixed := hm
  names f fn h := by
    cases hb : fn.name == "runtime.NumGoroutine" with
    | false => rfl
    | true =>
      have := picked_in (P := P) (test := isGor) h hb
      rw [hg] at this
      cases this
  clone f fn h _ hn := by
    have := picked_in (P := P) (test := isClone) h (by unfold isClone; rw [hn]; exact beq_self_eq_true _)
    rw [hc] at this
    simp only [List.mem_singleton] at this
    subst this
    have h : P.funcs[f]? = some fn := h
    rw [hfc] at h
    cases h
    exact ec
  index f fn h _ hn := by
    have := picked_in (P := P) (test := isIndex) h (by unfold isIndex; rw [hn]; exact beq_self_eq_true _)
    rw [hi] at this
    simp only [List.mem_singleton] at this
    subst this
    have h : P.funcs[f]? = some fn := h
    rw [hfi] at h
    cases h
    exact ei
  fields t i fs h0 h f hf := by
    have h : P.underlying t = some (.struct fs) := h
    have h0 : P.types[t]? = some i := h0
    have hlt : t < P.types.size := (Array.getElem?_eq_some_iff.1 h0).1
    have := allP_ok ht t (List.mem_range.2 hlt)
    unfold typeOk at this
    rw [h] at this
    have := allP_ok this f (by simpa using hf)
    unfold fieldOk at this
    cases hi : P.types[f.type]? with
    | none => rw [hi] at this; cases this
    | some j =>
      refine ⟨j, ?_⟩
      have hlt : f.type < P.types.size := (Array.getElem?_eq_some_iff.1 hi).1
      show P.info? f.type = some j
      unfold Tables.info?
      rw [if_pos hlt]
      exact hi

end Go.VI
