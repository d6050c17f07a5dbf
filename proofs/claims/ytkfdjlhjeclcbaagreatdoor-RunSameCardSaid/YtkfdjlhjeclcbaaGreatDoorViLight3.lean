/-
  VI: what is light, held against the model's own operations: operators, maps, types, building.
-/
import Derived.Test.YtkfdjlhjeclcbaaGreatDoorViLight2
namespace Go.VI
open Go
noncomputable section
section
variable {cx : Cx} {ι : Emb} {D : Nat → Prop} {σ : Mem} {w : World} {T : Tr Value} {ρ : Operand → Value}

theorem run_v {P : Program} {s : Sem Value} {a : Value} {w w' : World} (h : s.run P w = .ok a w') : ((do pure (.value (← s))) : Sem Next).run P w = .ok (.value a) w' := by
  simp [h]

theorem ofPure_sound {o : Oper} (hs : ∀ cs b, o.op ≠ .select cs b) (hρ : ∀ x ∈ o.op.operands, rho T x = ρ x) {v : Value} (h : ofPure (pureRun cx.P (execOp (rho T) o)) = .ok (.val v)) :
    (execOp ρ o).run cx.P w = .ok (.value (ren ι v)) w ∧ vok ι D v := by
  obtain ⟨h1, h2⟩ := ofPure_ok h
  obtain ⟨h3, h4⟩ := vok_shut (ι := ι) (D := D) h2
  refine ⟨?_, h4⟩
  rw [h3, ← pureRun_run _ _ h1 w]
  congr 1
  exact (execOp_congr o hs hρ).symm

theorem byModel_sound {o : Oper} (hs : ∀ cs b, o.op ≠ .select cs b) (hρ : Ops ι D T ρ o.op.operands) {v : Value} (h : byModel cx o T = .ok (.val v)) :
    (execOp ρ o).run cx.P w = .ok (.value (ren ι v)) w ∧ vok ι D v := by
  obtain ⟨h3, h4⟩ := vok_shut (ι := ι) (D := D) (byModel_shut h)
  exact ⟨by rw [h3]; exact byModel_run o hs hρ h, h4⟩

theorem byModel_new {o : Oper} {k : Kn} {cs : List Value} {mk : Nat → Value} (h : byModel cx o T = .ok (.new k cs mk)) : False := by
  unfold byModel at h
  split at h
  · exact ofPure_new h
  · cases h

theorem rho_shut {x : Operand} {v : Value} (hx : evalO T x = .ok v) (hs : shut v = true) (hρ : ∀ v, evalO T x = .ok v → ρ x = ren ι v ∧ vok ι D v) : rho T x = ρ x := by
  rw [(hρ v hx).1, (vok_shut (ι := ι) (D := D) hs).1]
  simp [rho, hx]

theorem bin2_sound (ok : CxOk cx) {o : Oper} {op : BinOp} {t yt : TypeId} {x y : Operand} (ho : o.op = .binOp op t x y yt) (hρ : Ops ι D T ρ o.op.operands) {a b v : Value}
    (hx : evalO T x = .ok a) (hy : evalO T y = .ok b) (h : bin2 cx o T op t a b = .ok (.val v)) :
    (execOp ρ o).run cx.P w = .ok (.value (ren ι v)) w ∧ vok ι D v := by
  have h1 := hρ x (by rw [ho]; simp [Op.operands])
  have h2 := hρ y (by rw [ho]; simp [Op.operands])
  unfold bin2 at h
  split at h
  · rename_i hs
    obtain ⟨s1, s2⟩ := and_true hs
    refine ofPure_sound (by rw [ho]; simp) ?_ h
    intro z hz
    rw [ho] at hz
    simp only [Op.operands, List.mem_toArray, List.mem_cons, List.not_mem_nil, or_false] at hz
    rcases hz with rfl | rfl
    · exact rho_shut hx s1 h1
    · exact rho_shut hy s2 h2
  · have hv := vv_val h
    obtain ⟨g1, g2, g3⟩ := eqA_sound (ι := ι) (D := D) (w := w) (X := x) (Y := y) ok hv
    refine ⟨?_, g3⟩
    rw [g2]
    unfold execOp
    rw [ho]
    simp only
    rw [(h1 a hx).1, (h2 b hy).1]
    exact run_v g1

theorem isShift_false {op : BinOp} (h : isShift op = false) : op ≠ .shl ∧ op ≠ .shr := by
  cases op <;> simp [isShift] at h <;> simp

theorem bin_sound (ok : CxOk cx) {o : Oper} {op : BinOp} {t yt : TypeId} {x y : Operand} (ho : o.op = .binOp op t x y yt) (hρ : Ops ι D T ρ o.op.operands) {v : Value}
    (h : binE cx o T op t (evalO T x) (evalO T y) = .ok (.val v)) :
    (execOp ρ o).run cx.P w = .ok (.value (ren ι v)) w ∧ vok ι D v := by
  have h1 := hρ x (by rw [ho]; simp [Op.operands])
  have h2 := hρ y (by rw [ho]; simp [Op.operands])
  cases hx : evalO T x with
  | er e => rw [hx] at h; cases h
  | ok a =>
    cases hy : evalO T y with
    | er e => rw [hx, hy] at h; cases h
    | ok b =>
      rw [hx, hy] at h
      simp only [binE, binL] at h
      split at h
      · rename_i j p
        split at h
        · rename_i k q
          unfold binInt at h
          split at h
          · refine ofPure_sound (by rw [ho]; simp) ?_ h
            intro z hz
            rw [ho] at hz
            simp only [Op.operands, List.mem_toArray, List.mem_cons, List.not_mem_nil, or_false] at hz
            rcases hz with rfl | rfl
            · exact rho_shut hx rfl h1
            · exact rho_shut hy rfl h2
          · split at h
            · rename_i hk
              have hk := of_decide_eq_true hk
              subst hk
              obtain ⟨g1, g2, g3⟩ := intA_sound (cx := cx) (w := w) (ι := ι) (D := D) (t := t) (vv_val h)
              refine ⟨?_, g3⟩
              rw [g2]
              unfold execOp
              rw [ho]
              simp only
              rw [(h1 _ hx).1, (h2 _ hy).1]
              simp only [ren]
              refine run_v ?_
              simp only [Sem.run_bind, run_guard_int, Result.andThen_ok, g1]
            · cases h
        · exact bin2_sound ok ho hρ hx hy h
      · rename_i p
        split at h
        · rename_i q
          obtain ⟨g1, g2, g3⟩ := strA_sound (cx := cx) (w := w) (ι := ι) (D := D) (t := t) (vv_val h)
          refine ⟨?_, g3⟩
          rw [g2]
          unfold execOp
          rw [ho]
          simp only
          rw [(h1 _ hx).1, (h2 _ hy).1]
          simp only [ren]
          refine run_v ?_
          simp only [Sem.run_bind, run_guard_str, Result.andThen_ok, g1]
        · exact bin2_sound ok ho hρ hx hy h
      · exact bin2_sound ok ho hρ hx hy h

theorem un_sound {o : Oper} {op : UnOp} {t : TypeId} {x : Operand} (ho : o.op = .unOp op t x) (hρ : Ops ι D T ρ o.op.operands) {v : Value}
    (h : unA cx o T op (evalO T x) = .ok (.val v)) : (execOp ρ o).run cx.P w = .ok (.value (ren ι v)) w ∧ vok ι D v := by
  have h1 := hρ x (by rw [ho]; simp [Op.operands])
  cases hx : evalO T x with
  | er e => rw [hx] at h; cases h
  | ok a =>
    rw [hx] at h
    unfold unA at h
    split at h
    · rename_i b he
      cases he
      split at h
      · cases h
        refine ⟨?_, by simp [vok]⟩
        unfold execOp
        rw [ho]
        simp only
        rw [(h1 _ hx).1]
        simp [ren, Op.unary]
      · cases h
    · exact byModel_sound (by rw [ho]; simp) hρ h
    · cases h

theorem conv_sound (ok : CxOk cx) {o : Oper} {s d : TypeId} {x : Operand} (ho : o.op = .convert s d x) (hρ : Ops ι D T ρ o.op.operands) {v : Value}
    (h : convA cx o T s d (evalO T x) = .ok (.val v)) : (execOp ρ o).run cx.P w = .ok (.value (ren ι v)) w ∧ vok ι D v := by
  have h1 := hρ x (by rw [ho]; simp [Op.operands])
  cases hx : evalO T x with
  | er e => rw [hx] at h; cases h
  | ok a =>
    rw [hx] at h
    unfold convA at h
    split at h
    · rename_i k n he
      cases he
      unfold convI at h
      split at h
      · rename_i k' hu
        have hu' := und_sound ok hu
        split at h
        · rename_i ds hs
          cases h
          have hs' := und_sound ok hs
          refine ⟨?_, by simp [vok]⟩
          unfold execOp
          rw [ho]
          simp only
          rw [(h1 _ hx).1]
          simp [ren, convert, run_underlying hu', run_underlying hs', Conv.intToInt]
        · cases h
      · exact byModel_sound (by rw [ho]; simp) hρ h
    · exact byModel_sound (by rw [ho]; simp) hρ h
    · cases h

theorem index_str_sound (ok : CxOk cx) {o : Oper} {t : TypeId} {x i : Operand} (ho : o.op = .index t x i) (hρ : Ops ι D T ρ o.op.operands) {v : Value}
    (h : indexA cx o T t (evalO T x) (evalO T i) = .ok (.val v)) : (execOp ρ o).run cx.P w = .ok (.value (ren ι v)) w ∧ vok ι D v := by
  have h1 := hρ x (by rw [ho]; simp [Op.operands])
  have h2 := hρ i (by rw [ho]; simp [Op.operands])
  cases hx : evalO T x with
  | er e => rw [hx] at h; cases h
  | ok a =>
    rw [hx] at h
    unfold indexA at h
    split at h
    · rename_i s he
      cases he
      unfold indexS at h
      split at h
      · rename_i hu
        have hu' := und_sound ok hu
        split at h
        · rename_i k n hi
          unfold byteR at h
          split at h
          · rename_i b hb
            cases h
            refine ⟨?_, by simp [vok]⟩
            unfold execOp
            rw [ho]
            simp only
            rw [(h1 _ hx).1, (h2 _ hi).1]
            have hb' : s[n]? = some b := by
              have hlt : n < s.size := by rw [Lib.size_eq]; exact (List.getElem?_eq_some_iff.1 hb).1
              rw [getElem?_pos s n hlt]
              have := (List.getElem?_eq_some_iff.1 hb).2
              rw [← this]
              rfl
            refine run_v ?_
            simp only [ren, Instr.index, asIntOf, Sem.run_bind, Sem.run_pure, Result.andThen_ok, run_underlying hu']
            rw [if_pos (show (0 : Int) ≤ Int.ofNat n from Int.natCast_nonneg n)]
            simp [hb']
          · cases h
        · cases h
      · cases h
    · exact byModel_sound (by rw [ho]; simp) hρ h
    · cases h

/-! Slices of texts -/

theorem sliceT_sound (ok : CxOk cx) {t : TypeId} {s : ByteArray} {lo hi mx : Option Operand} {v : Value}
    (hρl : ∀ x ∈ lo, ∀ v, evalO T x = .ok v → ρ x = ren ι v) (hρh : ∀ x ∈ hi, ∀ v, evalO T x = .ok v → ρ x = ren ι v)
    (h : sliceT cx T t s lo hi mx = .ok (.val v)) :
    (Instr.sliceAt t (.string s) (lo.map ρ) (hi.map ρ) (mx.map ρ)).run cx.P w = .ok (ren ι v) w ∧ vok ι D v := by
  unfold sliceT at h
  split at h
  · rename_i hu
    have hu' := und_sound ok hu
    split at h
    · cases h
    · cases hl : bound? T 0 lo with
      | er e => rw [hl] at h; cases h
      | ok l =>
        rw [hl] at h
        simp only at h
        cases hh : bound? T s.data.toList.length hi with
        | er e => rw [hh] at h; cases h
        | ok g =>
          rw [hh] at h
          simp only [sliceS] at h
          split at h
          · rename_i hb
            obtain ⟨b1, b2⟩ := and_true hb
            have b1 := ble_le b1; have b2 := ble_le b2
            cases h
            refine ⟨?_, by simp [vok]⟩
            simp only [Instr.sliceAt, Sem.run_bind, run_underlying hu', Result.andThen_ok, Instr.slice, Option.map_none, Option.isSome_none, Bool.false_eq_true, if_false, Sem.run_pure]
            rw [← Lib.size_eq] at hh b2
            rw [bounds_sound (cx := cx) (ι := ι) hl hh b1 b2 hρl hρh]
            simp [ren, Lib.extract_eq]
          · cases h
  · cases h

theorem exact_sound (R : Rel ι D σ w) {b : Nat} {cs : List Value} (h : σ.exact? b = some cs) : (ι b).limit = (ι b).shift + cs.length := by
  unfold Mem.exact? exactB at h
  cases hb : σ.h.get b with
  | none => rw [hb] at h; cases h
  | some blk =>
    rw [hb] at h
    cases blk <;> simp at h
    · rename_i f s
      cases hf : σ.fams.get f with
      | none => rw [hf] at h; cases h; exact R.exact b _ _ _ hb hf
      | some l => rw [hf] at h; cases h
    · subst h; exact (R.live b _ hb).2.2

theorem sliceArr_sound (ok : CxOk cx) (R : Rel ι D σ w) {t : TypeId} {a : Option Addr} {lo hi mx : Option Operand} {v : Value} (ha : vok ι D (.pointer a))
    (hρl : ∀ x ∈ lo, ∀ v, evalO T x = .ok v → ρ x = ren ι v) (hρh : ∀ x ∈ hi, ∀ v, evalO T x = .ok v → ρ x = ren ι v)
    (h : sliceArr cx T σ t a lo hi mx = .ok (.val v)) :
    (Instr.sliceAt t (ren ι (.pointer a)) (lo.map ρ) (hi.map ρ) (mx.map ρ)).run cx.P w = .ok (ren ι v) w ∧ vok ι D v := by
  unfold sliceArr at h
  split at h
  · rename_i n e b hu
    have hu' := und_sound ok hu
    split at h
    · rename_i l g sz cs hl hh hs hc
      split at h
      · rename_i hb
        obtain ⟨b1, b2, b3, b4⟩ := hb
        cases h
        have hlim := exact_sound R hc
        rw [vok] at ha
        constructor
        · simp only [Instr.sliceAt, Sem.run_bind, run_underlying hu', Result.andThen_ok, ren, renA, Instr.sureAddr, Sem.run_pure, Option.map_none]
          rw [bounds_sound (cx := cx) (ι := ι) hl hh (by omega) b2 hρl hρh]
          simp only [Result.andThen_ok, run_sizeOf' ok hs]
          rw [if_neg (by omega)]
          have : ((ι b).limit - ((ι b).shift + l * sz)) / sz = n - l := by
            rw [hlim, b3, Nat.add_sub_add_left, ← Nat.sub_mul, Nat.mul_div_cancel _ b4]
          rw [this, add_lit]
          simp
        · rw [vok]
          refine ⟨ha.1, rfl, b4, ?_⟩
          simp only [hlim, b3]
          have : l * sz + (g - l) * sz = g * sz := by rw [← Nat.add_mul]; congr 1; omega
          have : g * sz ≤ n * sz := Nat.mul_le_mul_right _ b2
          omega
      · cases h
    · cases h
  · cases h

/-! Maps -/

theorem mapOf_sound (R : Rel ι D σ w) {r : Option Nat} {es : List MapEntry} {clock : Nat} (h : mapOf σ r = some (es, clock)) :
    (r = none ∧ es = []) ∨ ∃ b, r = some b ∧ D b ∧ σ.h.get b = some (.map es clock) ∧ w.heap[(ι b).blk]? = some (.map (es.map (renE ι)).toArray clock) ∧ ∀ x ∈ es, vok ι D x.key ∧ ren ι x.key = x.key ∧ vok ι D x.val := by
  cases r with
  | none => simp only [mapOf] at h; cases h; exact .inl ⟨rfl, rfl⟩
  | some b =>
    simp only [mapOf, mapB] at h
    split at h
    · rename_i hb
      cases h
      obtain ⟨hD, h1, h2⟩ := R.live b _ hb
      exact .inr ⟨b, rfl, hD, hb, h1, h2⟩
    · cases h

def renR (ι : Emb) (r : Option (Nat × Value)) : Option (Nat × Value) := r.map fun p => (p.1, ren ι p.2)

theorem findI_int {k : Value} {kd : IntKind} (hk : ∃ j a, k = .int j a) : ∀ (es : List MapEntry) (i : Nat) (r : Option (Nat × Value)), findI k es i = some r → Instr.findNow (.int kd) k (es.map (renE ι)) i = some (renR ι r)
  | [], i, r, h => by simp only [findI] at h; cases h; rfl
  | e :: es, i, r, h => by
    obtain ⟨j, a, rfl⟩ := hk
    simp only [findI, sameKey] at h
    simp only [List.map_cons, Instr.findNow, renE]
    cases he : e.key with
    | int j' b =>
      rw [he] at h
      simp only at h
      by_cases hj : j = j'
      · subst hj
        simp only [decide_true] at h
        simp only [Instr.sameNow, if_true]
        by_cases hab : a = b
        · simp only [hab, decide_true] at h
          cases h
          simp [hab, renR]
        · simp only [hab, decide_false] at h
          have hab' : (a == b) = false := by simpa using hab
          simp only [hab']
          exact findI_int ⟨j, a, rfl⟩ es (i + 1) r h
      · simp only [hj, decide_false] at h
        cases h
    | _ => rw [he] at h; cases h

theorem findI_str {k : Value} (hk : ∃ s, k = .string s) : ∀ (es : List MapEntry) (i : Nat) (r : Option (Nat × Value)), findI k es i = some r → Instr.findNow .string k (es.map (renE ι)) i = some (renR ι r)
  | [], i, r, h => by simp only [findI] at h; cases h; rfl
  | e :: es, i, r, h => by
    obtain ⟨s, rfl⟩ := hk
    simp only [findI, sameKey] at h
    simp only [List.map_cons, Instr.findNow, renE]
    cases he : e.key with
    | string b =>
      rw [he] at h
      simp only [sameL_eq] at h
      have hb : (s == b) = (s.data.toList == b.data.toList) := by
        rw [Bool.eq_iff_iff, MapKept.bytes_beq]
        simp only [beq_iff_eq]
        constructor
        · intro h; rw [h]
        · intro h; exact ByteArray.ext (Array.ext' h)
      simp only [Instr.sameNow, hb]
      cases hq : (s.data.toList == b.data.toList) with
      | true => rw [hq] at h; cases h; simp [renR]
      | false => rw [hq] at h; exact findI_str ⟨s, rfl⟩ es (i + 1) r h
    | _ => rw [he] at h; cases h

theorem findNow_map {kd : TypeDesc} {k : Value} : ∀ (es : List MapEntry) (i : Nat), Instr.findNow kd k (es.map (renE ι)) i = (Instr.findNow kd k es i).map (renR ι)
  | [], _ => rfl
  | e :: es, i => by
    simp only [List.map_cons, Instr.findNow, renE]
    cases Instr.sameNow kd k e.key with
    | none => rfl
    | some b => cases b with
      | true => simp [renR]
      | false => exact findNow_map es (i + 1)

theorem pureRun_bind {α β : Type} (P : Program) (s : Sem α) (f : α → Sem β) : pureRun P (s >>= f) = (pureRun P s).bind fun a => pureRun P (f a) := by
  show pureRun P (Sem.bind s f) = _
  induction s with
  | pure a => rfl
  | program k ih => simp only [Sem.bind, pureRun]; exact ih P
  | _ => rfl

theorem pureRun_pure {α : Type} (P : Program) (a : α) : pureRun P (pure a : Sem α) = some a := rfl

theorem findAsking_map {P : Program} {kt : TypeId} {k : Value} : ∀ (es : List MapEntry) (i : Nat) (r : Option (Nat × Value)), pureRun P (Instr.findAsking kt k es i) = some r → pureRun P (Instr.findAsking kt k (es.map (renE ι)) i) = some (renR ι r)
  | [], i, r, h => by simp only [Instr.findAsking, pureRun_pure] at h; cases h; rfl
  | e :: es, i, r, h => by
    simp only [List.map_cons, Instr.findAsking, pureRun_bind, renE] at h ⊢
    cases hq : pureRun P (Op.equal kt k e.key) with
    | none => rw [hq] at h; cases h
    | some b =>
      rw [hq] at h
      simp only [Option.bind_some] at h ⊢
      cases b with
      | true => simp only [if_true, pureRun_pure] at h ⊢; cases h; rfl
      | false =>
        simp only [Bool.false_eq_true, if_false] at h ⊢
        exact findAsking_map es (i + 1) r h

theorem pureRun_underlying {P : Program} {t : TypeId} {d : TypeDesc} (h : P.underlying t = some d) : pureRun P (underlying t) = some d := by
  show pureRun P (program >>= _) = _
  rw [pureRun_bind]
  show (some P).bind _ = _
  simp only [Option.bind_some, h]
  rfl

theorem findKey_map {P : Program} {kt : TypeId} {k : Value} {d : TypeDesc} (hu : P.underlying kt = some d) {es : List MapEntry} {r : Option (Nat × Value)} (h : pureRun P (Instr.findKey kt k es) = some r) :
    pureRun P (Instr.findKey kt k (es.map (renE ι))) = some (renR ι r) := by
  simp only [Instr.findKey, pureRun_bind, pureRun_underlying hu, Option.bind_some, findNow_map] at h ⊢
  cases hn : Instr.findNow d k es 0 with
  | some q => rw [hn] at h; simp only [pureRun_pure, Option.map_some] at h ⊢; cases h; rfl
  | none => rw [hn] at h; exact findAsking_map es 0 r h

/-- Where a key stands: what the model says. -/
theorem findA_sound (ok : CxOk cx) {kt : TypeId} {empty : Bool} {k : Value} {es : List MapEntry} {r : Option (Nat × Value)} (h : findA cx kt empty k es = some r) :
    (Instr.checkKey empty 10000 kt k).run cx.P w = .ok () w ∧ (Instr.findKey kt k (es.map (renE ι))).run cx.P w = .ok (renR ι r) w := by
  unfold findA at h
  cases hu : cx.und kt with
  | none => rw [hu] at h; cases h
  | some d =>
    rw [hu] at h
    have hu' := und_sound ok hu
    have hck : (∀ x, d ≠ .interface x) → (∀ x y, d ≠ .array x y) → (∀ x, d ≠ .struct x) → ∀ n, (Instr.checkKey empty (n + 1) kt k).run cx.P w = .ok () w := by
      intro h1 h2 h3 n
      simp only [Instr.checkKey, Sem.run_bind, run_underlying hu', Result.andThen_ok]
      cases d <;> simp_all
    have hgen : (match pureRun cx.P (Instr.checkKey empty 10000 kt k) with
        | some () => pureRun cx.P (Instr.findKey kt k es)
        | none => none) = some r → (Instr.checkKey empty 10000 kt k).run cx.P w = .ok () w ∧ (Instr.findKey kt k (es.map (renE ι))).run cx.P w = .ok (renR ι r) w := by
      intro h
      split at h
      · rename_i hc
        exact ⟨pureRun_run _ _ hc w, pureRun_run _ _ (findKey_map hu' h) w⟩
      · cases h
    split at h
    · rename_i kd heq
      cases heq
      split at h
      · rename_i j a
        refine ⟨hck (by simp) (by simp) (by simp) 9999, ?_⟩
        have := findI_int (ι := ι) (kd := kd) ⟨j, a, rfl⟩ es 0 r h
        simp only [Instr.findKey, Sem.run_bind, run_underlying hu', Result.andThen_ok, this, Sem.run_pure]
      · cases h
    · rename_i heq
      cases heq
      split at h
      · rename_i s
        refine ⟨hck (by simp) (by simp) (by simp) 9999, ?_⟩
        have := findI_str (ι := ι) ⟨s, rfl⟩ es 0 r h
        simp only [Instr.findKey, Sem.run_bind, run_underlying hu', Result.andThen_ok, this, Sem.run_pure]
      · cases h
    · exact hgen h
    · cases h

theorem findI_mem {k : Value} : ∀ (es : List MapEntry) (i : Nat) (p : Nat × Value), findI k es i = some (some p) → ∃ e ∈ es, p.2 = e.val
  | [], i, p, h => by simp only [findI] at h; cases h
  | e :: es, i, p, h => by
    simp only [findI] at h
    split at h
    · cases h; exact ⟨e, by simp, rfl⟩
    · obtain ⟨x, hx, hp⟩ := findI_mem es (i + 1) p h
      exact ⟨x, by simp [hx], hp⟩
    · cases h

theorem findNow_mem {d : TypeDesc} {k : Value} : ∀ (es : List MapEntry) (i : Nat) (p : Nat × Value), Instr.findNow d k es i = some (some p) → ∃ e ∈ es, p.2 = e.val
  | [], i, p, h => by simp only [Instr.findNow] at h; cases h
  | e :: es, i, p, h => by
    simp only [Instr.findNow] at h
    split at h
    · cases h; exact ⟨e, by simp, rfl⟩
    · obtain ⟨x, hx, hp⟩ := findNow_mem es (i + 1) p h
      exact ⟨x, by simp [hx], hp⟩
    · cases h

theorem findAsking_mem {P : Program} {kt : TypeId} {k : Value} : ∀ (es : List MapEntry) (i : Nat) (p : Nat × Value), pureRun P (Instr.findAsking kt k es i) = some (some p) → ∃ e ∈ es, p.2 = e.val
  | [], i, p, h => by simp only [Instr.findAsking, pureRun_pure] at h; cases h
  | e :: es, i, p, h => by
    simp only [Instr.findAsking, pureRun_bind] at h
    cases hq : pureRun P (Op.equal kt k e.key) with
    | none => rw [hq] at h; cases h
    | some b =>
      rw [hq] at h
      simp only [Option.bind_some] at h
      cases b with
      | true => simp only [if_true, pureRun_pure] at h; cases h; exact ⟨e, by simp, rfl⟩
      | false =>
        simp only [Bool.false_eq_true, if_false] at h
        obtain ⟨x, hx, hp⟩ := findAsking_mem es (i + 1) p h
        exact ⟨x, by simp [hx], hp⟩

theorem findA_mem (ok : CxOk cx) {kt : TypeId} {empty : Bool} {k : Value} {es : List MapEntry} {p : Nat × Value} (h : findA cx kt empty k es = some (some p)) : ∃ e ∈ es, p.2 = e.val := by
  unfold findA at h
  cases hu : cx.und kt with
  | none => rw [hu] at h; cases h
  | some d =>
    rw [hu] at h
    have hu' := und_sound ok hu
    have hgen : (match pureRun cx.P (Instr.checkKey empty 10000 kt k) with
        | some () => pureRun cx.P (Instr.findKey kt k es)
        | none => none) = some (some p) → ∃ e ∈ es, p.2 = e.val := by
      intro h
      split at h
      · simp only [Instr.findKey, pureRun_bind, pureRun_underlying hu', Option.bind_some] at h
        cases hn : Instr.findNow d k es 0 with
        | some q => rw [hn] at h; simp only [pureRun_pure] at h; cases h; exact findNow_mem es 0 p hn
        | none => rw [hn] at h; exact findAsking_mem es 0 p h
      · cases h
    split at h
    · split at h
      · exact findI_mem es 0 p h
      · cases h
    · split at h
      · exact findI_mem es 0 p h
      · cases h
    · exact hgen h
    · cases h

theorem lookup_sound (ok : CxOk cx) (R : Rel ι D σ w) {t : TypeId} {m k v : Value} {commaOk : Bool} (h : lookA cx σ t m k commaOk = .ok v) :
    (Instr.lookup t (ren ι m) (ren ι k) commaOk).run cx.P w = .ok (ren ι v) w ∧ vok ι D v := by
  unfold lookA at h
  split at h
  · rename_i kt et hu
    have hu' := und_sound ok hu
    split at h
    · rename_i r
      unfold lookM at h
      split at h
      · rename_i es clock hm
        split at h
        · rename_i hs
          obtain ⟨s1, _⟩ := and_true hs
          obtain ⟨k1, _⟩ := vok_shut (ι := ι) (D := D) s1
          rw [k1]
          have hes : (match ren ι (.map r) with
              | .map none => pure #[]
              | .map (some b) => do
                let .map es _ ← getObj b | stuck "Lookup: map expected"
                pure es
              | _ => stuck "Lookup: map expected" : Sem (Array MapEntry)).run cx.P w = .ok (es.map (renE ι)).toArray w ∧ ∀ x ∈ es, vok ι D x.val := by
            rcases mapOf_sound R hm with ⟨rfl, rfl⟩ | ⟨b, rfl, _, _, h1, h2⟩
            · exact ⟨by simp [ren], by simp⟩
            · refine ⟨?_, fun x hx => (h2 x hx).2.2⟩
              simp only [ren, Sem.run_bind, MapKept.run_getObj_map h1, Result.andThen_ok, Sem.run_pure]
          have hem : (es.map (renE ι)).toArray.isEmpty = es.isEmpty := by cases es <;> simp
          have key : ∀ q, findA cx kt es.isEmpty k es = some q → (Instr.lookup t (ren ι (.map r)) k commaOk).run cx.P w =
              ((match renR ι q with
                | some (_, v) => (pure (v, true) : Sem (Value × Bool))
                | none => do pure (← zeroValue et, false)).run cx.P w).andThen fun p w => .ok (if commaOk then .tuple #[p.1, .bool p.2] else p.1) w := by
            intro q hq
            obtain ⟨g1, g2⟩ := findA_sound (ι := ι) (w := w) ok hq
            rcases mapOf_sound R hm with ⟨rfl, rfl⟩ | ⟨b, rfl, _, _, h1, _⟩
            · simp only [List.isEmpty_nil] at g1
              simp only [List.map_nil] at g2
              simp only [Instr.lookup, Sem.run_bind, run_underlying hu', Result.andThen_ok, ren, Sem.run_pure, Array.isEmpty_empty, g1, g2]
              cases renR ι q with
              | none => simp; cases Sem.run cx.P (zeroValue et) w <;> rfl
              | some p => simp
            · simp only [Instr.lookup, Sem.run_bind, run_underlying hu', Result.andThen_ok, ren, Sem.run_pure, MapKept.run_getObj_map h1, hem, g1, g2]
              cases renR ι q with
              | none => simp; cases Sem.run cx.P (zeroValue et) w <;> rfl
              | some p => simp
          unfold lookR at h
          split at h
          · rename_i p hf
            cases h
            rw [key _ hf]
            obtain ⟨e, he, hp⟩ := findA_mem ok hf
            have hv := hes.2 e he
            simp only at hp
            rw [hp]
            simp only [renR, Option.map_some, Sem.run_pure, Result.andThen_ok]
            cases commaOk with
            | true =>
              constructor
              · simp [answer, ren]
              · simp only [answer]; rw [vok]; intro x hx; simp at hx; rcases hx with rfl | rfl; exact hv; simp [vok]
            | false => exact ⟨by simp [answer], by simpa [answer] using hv⟩
          · rename_i hf
            split at h
            · rename_i z hz
              cases h
              obtain ⟨z1, z2, z3⟩ := zeroOf_ok (ι := ι) (D := D) (w := w) ok hz
              rw [key _ hf]
              simp only [renR, Option.map_none, Sem.run_bind, z1, Result.andThen_ok, Sem.run_pure]
              cases commaOk with
              | true =>
                constructor
                · simp [answer, ren, z2]
                · simp only [answer]; rw [vok]; intro x hx; simp at hx; rcases hx with rfl | rfl; exact z3; simp [vok]
              | false => exact ⟨by simp [answer, z2], by simpa [answer] using z3⟩
            · cases h
          · cases h
        · cases h
      · cases h
    · cases h
  · cases h

end
end
end Go.VI
