/-
  VI: what is light, held against the model's own operations: numbers, texts, comparisons, maps, building, new blocks.
-/
import Derived.Test.YtkfdjlhjeclcbaaGreatDoorViLight
import Derived.Lib.Strings
namespace Go.VI
open Go
noncomputable section

theorem sameL_eq : ∀ (a b : List UInt8), sameL a b = (a == b)
  | [], [] => rfl
  | [], _ :: _ => rfl
  | _ :: _, [] => rfl
  | a :: x, b :: y => by
    simp only [sameL, sameL_eq x y]
    rw [Bool.eq_iff_iff]
    simp [UInt8.toNat_inj]

section
variable {cx : Cx} {ι : Emb} {D : Nat → Prop} {σ : Mem} {w : World} {T : Tr Value} {ρ : Operand → Value}

theorem run_guard_int {op : BinOp} {t : TypeId} {x y : Operand} {j k : IntKind} {a b : Int} : (eqGuard op t x y (.int j a) (.int k b)).run cx.P w = .ok () w := by
  unfold eqGuard
  cases op <;> simp

theorem run_guard_str {op : BinOp} {t : TypeId} {x y : Operand} {a b : ByteArray} : (eqGuard op t x y (.string a) (.string b)).run cx.P w = .ok () w := by
  unfold eqGuard
  cases op <;> simp

theorem divA_ok {b : Int} {u v : Value} (h : divA b u = .ok v) : b ≠ 0 ∧ u = v := by
  unfold divA at h
  split at h
  · cases h
  · rename_i hb
    cases h
    exact ⟨of_decide_eq_false hb, rfl⟩

theorem intA_sound {op : BinOp} {t : TypeId} {k : IntKind} {a b : Int} {v : Value} (h : intA op k a b = .ok v) :
    (binOp op t (.int k a) (.int k b)).run cx.P w = .ok v w ∧ ren ι v = v ∧ vok ι D v := by
  cases op <;> simp only [intA, bitsA] at h <;> try (cases h; done)
  case quo =>
    obtain ⟨h0, rfl⟩ := divA_ok h
    refine ⟨?_, by simp [ren], by simp [vok]⟩
    simp [binOp, Op.intDiv, h0]
  case rem =>
    obtain ⟨h0, rfl⟩ := divA_ok h
    refine ⟨?_, by simp [ren], by simp [vok]⟩
    simp [binOp, Op.intDiv, h0]
  all_goals
    cases h
    refine ⟨?_, by simp [ren], by simp [vok]⟩
    first
      | (simp [binOp, Op.intArith]; done)
      | (simp [binOp, Op.intBits]; done)
      | (simp [binOp, Op.intCmp]; done)
      | (simp [binOp, Op.intCmp]; rfl)

theorem strA_sound {op : BinOp} {t : TypeId} {a b : ByteArray} {v : Value} (h : strA op a b = .ok v) :
    (binOp op t (.string a) (.string b)).run cx.P w = .ok v w ∧ ren ι v = v ∧ vok ι D v := by
  cases op <;> simp only [strA] at h <;> try (cases h; done)
  case add =>
    split at h
    · rename_i hb
      cases h
      have hb := ble_le hb
      refine ⟨?_, by simp [ren], by simp [vok]⟩
      have hm : IntKind.i64.max = 9223372036854775807 := by decide
      simp only [binOp, Op.stringOp]
      rw [if_neg (by rw [hm]; omega)]
      have : (⟨⟨a.data.toList ++ b.data.toList⟩⟩ : ByteArray) = a ++ b := by
        apply ByteArray.ext
        apply Array.ext'
        simp
      rw [this]; rfl
    · cases h
  all_goals
    cases h
    refine ⟨?_, by simp [ren], by simp [vok]⟩
    simp [binOp, Op.stringOp, ByteArray.toList_eq, sameL_eq]

theorem equal_succ (t : TypeId) (x y : Value) : Op.equal t x y = Op.equalIn (9999 + 1) t x y := rfl

/-- What is said of a comparison with nil. -/
def NilEq (cx : Cx) (w : World) (op : BinOp) (t : TypeId) (X Y : Operand) (x y : Value) (r : Bool) : Prop :=
  (eqGuard op t X Y x y).run cx.P w = .ok () w ∧ (Op.equal t x y).run cx.P w = .ok r w ∧
    binOp .eql t x y = (do pure (.bool (← Op.equal t x y))) ∧ binOp .neq t x y = (do pure (.bool (!(← Op.equal t x y))))

theorem nilEq_ptr {op : BinOp} {t e : TypeId} {X Y : Operand} (hu : cx.P.underlying t = some (.pointer e)) (a : Option Addr) : NilEq cx w op t X Y (.pointer a) (.pointer none) a.isNone := by
  refine ⟨by unfold eqGuard; split <;> simp, ?_, rfl, rfl⟩
  have hd : ∀ d, (Op.equalIn (d + 1) t (.pointer a) (.pointer none)).run cx.P w = .ok (a.isNone) w := fun d => by
    simp only [Op.equalIn, Sem.run_bind, run_underlying hu, Result.andThen_ok]
    cases a <;> rfl
  exact hd 9999

theorem nilEq_ptr' {op : BinOp} {t e : TypeId} {X Y : Operand} (hu : cx.P.underlying t = some (.pointer e)) (a : Option Addr) : NilEq cx w op t X Y (.pointer none) (.pointer a) a.isNone := by
  refine ⟨by unfold eqGuard; split <;> simp, ?_, rfl, rfl⟩
  have hd : ∀ d, (Op.equalIn (d + 1) t (.pointer none) (.pointer a)).run cx.P w = .ok (a.isNone) w := fun d => by
    simp only [Op.equalIn, Sem.run_bind, run_underlying hu, Result.andThen_ok]
    cases a <;> rfl
  exact hd 9999

theorem nilEq_slice {op : BinOp} {t e : TypeId} {X Y : Operand} (hu : cx.P.underlying t = some (.slice e)) (a : Option Addr) (n c n' c' : Nat) : NilEq cx w op t X Y (.slice a n c) (.slice none n' c') a.isNone := by
  refine ⟨by unfold eqGuard; split <;> simp, ?_, rfl, rfl⟩
  have hd : ∀ d, (Op.equalIn (d + 1) t (.slice a n c) (.slice none n' c')).run cx.P w = .ok (a.isNone) w := fun d => by
    simp only [Op.equalIn, Sem.run_bind, run_underlying hu, Result.andThen_ok]
    cases a <;> rfl
  exact hd 9999

theorem nilEq_slice' {op : BinOp} {t e : TypeId} {X Y : Operand} (hu : cx.P.underlying t = some (.slice e)) (a : Option Addr) (n c n' c' : Nat) : NilEq cx w op t X Y (.slice none n' c') (.slice a n c) a.isNone := by
  refine ⟨by unfold eqGuard; split <;> simp, ?_, rfl, rfl⟩
  have hd : ∀ d, (Op.equalIn (d + 1) t (.slice none n' c') (.slice a n c)).run cx.P w = .ok (a.isNone) w := fun d => by
    simp only [Op.equalIn, Sem.run_bind, run_underlying hu, Result.andThen_ok]
    cases a <;> rfl
  exact hd 9999

theorem nilEq_map {op : BinOp} {t k e : TypeId} {X Y : Operand} (hu : cx.P.underlying t = some (.map k e)) (a : Option Nat) : NilEq cx w op t X Y (.map a) (.map none) a.isNone := by
  refine ⟨by unfold eqGuard; split <;> simp, ?_, rfl, rfl⟩
  have hd : ∀ d, (Op.equalIn (d + 1) t (.map a) (.map none)).run cx.P w = .ok (a.isNone) w := fun d => by
    simp only [Op.equalIn, Sem.run_bind, run_underlying hu, Result.andThen_ok]
    cases a <;> rfl
  exact hd 9999

theorem nilEq_func {op : BinOp} {t : TypeId} {ps rs : Array TypeId} {v : Bool} {X Y : Operand} (hu : cx.P.underlying t = some (.func ps rs v)) (f : Fn) (a b : Array Value) : NilEq cx w op t X Y (.func f a b) .nilFunc false := by
  refine ⟨by unfold eqGuard; split <;> simp, ?_, rfl, rfl⟩
  have hd : ∀ d, (Op.equalIn (d + 1) t (.func f a b) (.nilFunc)).run cx.P w = .ok (false) w := fun d => by
    simp only [Op.equalIn, Sem.run_bind, run_underlying hu, Result.andThen_ok]
    rfl
  exact hd 9999

theorem nilEq_func' {op : BinOp} {t : TypeId} {ps rs : Array TypeId} {v : Bool} {X Y : Operand} (hu : cx.P.underlying t = some (.func ps rs v)) : NilEq cx w op t X Y .nilFunc .nilFunc true := by
  refine ⟨by unfold eqGuard; split <;> simp, ?_, rfl, rfl⟩
  have hd : ∀ d, (Op.equalIn (d + 1) t (.nilFunc) (.nilFunc)).run cx.P w = .ok (true) w := fun d => by
    simp only [Op.equalIn, Sem.run_bind, run_underlying hu, Result.andThen_ok]
    rfl
  exact hd 9999

theorem nilEq_iface {op : BinOp} {t : TypeId} {ms : Array (String × TypeId)} {X Y : Operand} (hu : cx.P.underlying t = some (.interface ms)) (u : TypeId) (x : Value) : NilEq cx w op t X Y (.iface u x) .nilIface false := by
  refine ⟨by unfold eqGuard; split <;> simp, ?_, rfl, rfl⟩
  have hd : ∀ d, (Op.equalIn (d + 1) t (.iface u x) (.nilIface)).run cx.P w = .ok (false) w := fun d => by
    simp only [Op.equalIn, Sem.run_bind, run_underlying hu, Result.andThen_ok]
    rfl
  exact hd 9999

theorem isNone_ren (ι : Emb) (a : Option Addr) : (∃ a', ren ι (.pointer a) = .pointer a' ∧ a'.isNone = a.isNone) := by
  cases a with
  | none => exact ⟨none, by simp [ren], rfl⟩
  | some a => exact ⟨some (renA ι a), by simp [ren], rfl⟩

theorem eqA_sound (ok : CxOk cx) {op : BinOp} {t : TypeId} {X Y : Operand} {x y v : Value} (h : eqA cx op t x y = .ok v) :
    ((do eqGuard op t X Y (ren ι x) (ren ι y); binOp op t (ren ι x) (ren ι y)) : Sem Value).run cx.P w = .ok v w ∧ ren ι v = v ∧ vok ι D v := by
  unfold eqA at h
  split at h
  · rename_i hn
    split at h
    · rename_i p q hp hq
      have hv : (op = .eql ∧ v = .bool (p == q)) ∨ (op = .neq ∧ v = .bool (!(p == q))) := by
        cases op <;> simp at h
        · exact .inl ⟨rfl, h.symm⟩
        · exact .inr ⟨rfl, h.symm⟩
      have e1 : NilEq cx w op t X Y (ren ι x) (ren ι y) (p == q) := by
        unfold nilType at hn
        cases hu : cx.und t with
        | none => rw [hu] at hn; simp at hn
        | some d =>
          rw [hu] at hn
          have hu' := und_sound ok hu
          split at hn
          · rename_i e a h1
            simp only [Option.some.injEq] at h1
            subst h1
            simp only [nilOf, Option.some.injEq] at hp hq
            subst hp; subst hq
            obtain ⟨a', ha, hb⟩ := isNone_ren ι a
            rw [ha, ← hb]
            simp only [ren, Option.isNone_none, show (a'.isNone == true) = a'.isNone from by cases a'.isNone <;> rfl]
            exact nilEq_ptr hu' a'
          · rename_i e a _ h1
            simp only [Option.some.injEq] at h1
            subst h1
            simp only [nilOf, Option.some.injEq] at hp hq
            subst hp; subst hq
            obtain ⟨a', ha, hb⟩ := isNone_ren ι a
            rw [ha, ← hb]
            simp only [ren, Option.isNone_none, show (true == a'.isNone) = a'.isNone from by cases a'.isNone <;> rfl]
            exact nilEq_ptr' hu' a'
          · rename_i e a n c n' c' h1
            simp only [Option.some.injEq] at h1
            subst h1
            simp only [nilOf, Option.some.injEq] at hp hq
            subst hp; subst hq
            cases a with
            | none => simp only [ren]; exact nilEq_slice hu' none _ _ _ _
            | some a => simp only [ren]; exact nilEq_slice hu' (some _) _ _ _ _
          · rename_i e n c a n' c' _ h1
            simp only [Option.some.injEq] at h1
            subst h1
            simp only [nilOf, Option.some.injEq] at hp hq
            subst hp; subst hq
            cases a with
            | none => simp only [ren]; exact nilEq_slice' hu' none _ _ _ _
            | some a => simp only [ren]; exact nilEq_slice' hu' (some _) _ _ _ _
          · rename_i k e a h1
            simp only [Option.some.injEq] at h1
            subst h1
            simp only [nilOf, Option.some.injEq] at hp hq
            subst hp; subst hq
            cases a with
            | none => simp only [ren]; exact nilEq_map hu' none
            | some a => simp only [ren]; exact nilEq_map hu' (some _)
          · rename_i h1
            simp only [Option.some.injEq] at h1
            subst h1
            simp only [nilOf, Option.some.injEq] at hp hq
            subst hp; subst hq
            simp only [ren]
            exact nilEq_func hu' _ _ _
          · rename_i h1
            simp only [Option.some.injEq] at h1
            subst h1
            simp only [nilOf, Option.some.injEq] at hp hq
            subst hp; subst hq
            simp only [ren]
            exact nilEq_func' hu'
          · rename_i h1
            simp only [Option.some.injEq] at h1
            subst h1
            simp only [nilOf, Option.some.injEq] at hp hq
            subst hp; subst hq
            simp only [ren]
            exact nilEq_iface hu' _ _
          · cases hn
      obtain ⟨g1, g2, g3, g4⟩ := e1
      rcases hv with ⟨rfl, rfl⟩ | ⟨rfl, rfl⟩
      · refine ⟨?_, by simp [ren], by simp [vok]⟩
        simp only [Sem.run_bind, g1, Result.andThen_ok, g3, g2, Sem.run_pure]
      · refine ⟨?_, by simp [ren], by simp [vok]⟩
        simp only [Sem.run_bind, g1, Result.andThen_ok, g4, g2, Sem.run_pure]
    · cases h
  · cases h

end
end
end Go.VI
