/-
  VI: what is light and makes a new block.
-/
import Derived.Test.YtkfdjlhjeclcbaaGreatDoorViLight4
namespace Go.VI
open Go
noncomputable section

/-- What a new block is in the machine's memory. -/
inductive NK (ι : Emb) (D : Nat → Prop) : Kn → List Value → Em → World → World → Prop
  | cells {cs : List Value} {w : World} (t : TypeId) (h : ∀ v ∈ cs, vok ι D v) : NK ι D .cells cs ⟨w.heap.size, 0, cs.length⟩ w (w.alloc (.cells (cs.map (ren ι)).toArray t))
  | map {w : World} : NK ι D .map [] ⟨w.heap.size, 0, 0⟩ w (w.alloc (.map #[] 0))
  | view {s : Bool} {e : Em} {w : World} (h : s = true → e.limit ≤ e.shift) : NK ι D (.view s) [] e w w

/-- What is said of the value that a new block makes. -/
def Mk (mk : Nat → Value) (e : Em) (v' : Value) : Prop :=
  ∀ (id : Nat) (ι' : Emb) (D' : Nat → Prop), ι' id = e → ren ι' (mk id) = v' ∧ (D' id → vok ι' D' (mk id))

section
variable {cx : Cx} {ι : Emb} {D : Nat → Prop} {σ : Mem} {w : World} {T : Tr Value} {ρ : Operand → Value}

theorem mk_ptr (b l : Nat) : Mk ptrTo ⟨b, 0, l⟩ (.pointer (some ⟨b, 0, none⟩)) := by
  intro id ι' D' he
  simp only [ptrTo, ren, renA, he, vok]
  exact ⟨trivial, fun h => ⟨h, trivial⟩⟩

theorem mk_map (b l : Nat) : Mk mapTo ⟨b, 0, l⟩ (.map (some b)) := by
  intro id ι' D' he
  simp only [mapTo, ren, he, vok]
  exact ⟨trivial, fun h => h⟩

theorem mk_slice {e : Em} {len esz : Nat} (h0 : 0 < esz) (h : e.shift + len * esz ≤ e.limit) : Mk (sliceTo len esz) e (.slice (some ⟨e.blk, e.shift, none⟩) len ((e.limit - e.shift) / esz)) := by
  intro id ι' D' he
  simp only [sliceTo, ren, renA, he, vok, Nat.add_zero]
  exact ⟨trivial, fun hD => ⟨hD, trivial, h0, h⟩⟩

theorem rows_length (z : List Value) : ∀ n, (rows z n).length = n * z.length
  | 0 => by simp [rows]
  | n + 1 => by simp only [rows, List.length_append, rows_length z n]; rw [Nat.add_mul]; omega

theorem rows_mem (z : List Value) : ∀ n v, v ∈ rows z n → v ∈ z
  | 0, v, h => by simp [rows] at h
  | n + 1, v, h => by
    simp only [rows, List.mem_append] at h
    exact h.elim id (rows_mem z n v)

theorem rows_map (f : Value → Value) (z : List Value) : ∀ n, (rows z n).map f = rows (z.map f) n
  | 0 => rfl
  | n + 1 => by simp only [rows, List.map_append, rows_map f z n]

theorem rows_get (z : List Value) (h0 : 0 < z.length) : ∀ n i, i < n * z.length → (rows z n)[i]? = z[i % z.length]?
  | 0, i, h => by omega
  | n + 1, i, h => by
    simp only [rows]
    by_cases hi : i < z.length
    · rw [List.getElem?_append_left hi, Nat.mod_eq_of_lt hi]
    · rw [List.getElem?_append_right (by omega), rows_get z h0 n (i - z.length) (by rw [Nat.add_mul] at h; omega)]
      have : i = i - z.length + z.length := by omega
      conv => rhs; rw [this, Nat.add_mod_right]

/-- The model's own row of zeros. -/
theorem rows_model (z : Array Value) (h0 : 0 < z.size) (n m : Nat) (hm : m = n * z.size) : (Array.range m).map (z[· % z.size]!) = (rows z.toList n).toArray := by
  subst hm
  apply Array.ext'
  apply List.ext_getElem?
  intro i
  by_cases hi : i < n * z.size
  · have hl : 0 < z.toList.length := by simpa using h0
    rw [show (rows z.toList n).toArray.toList = rows z.toList n from rfl, rows_get z.toList hl n i (by simpa using hi)]
    have hmod : i % z.size < z.size := Nat.mod_lt _ h0
    simp [hi, hmod]
  · rw [List.getElem?_eq_none (by simp; omega), List.getElem?_eq_none (by
      rw [show (rows z.toList n).toArray.toList = rows z.toList n from rfl, rows_length]; simp; omega)]

theorem alloc_sound (ok : CxOk cx) {t : TypeId} {k : Kn} {cs : List Value} {mk : Nat → Value} (h : allocA (zeroOf cx t) = .ok (.new k cs mk)) :
    ∃ e v' w', (Instr.alloc t true (.tuple #[])).run cx.P w = .ok v' w' ∧ NK ι D k cs e w w' ∧ Mk mk e v' := by
  unfold allocA at h
  split at h
  · rename_i z hz
    cases h
    obtain ⟨z1, z2, z3⟩ := zeroOf_ok (ι := ι) (D := D) (w := w) ok hz
    refine ⟨_, _, _, ?_, NK.cells t (vok_cells z3), mk_ptr _ _⟩
    simp only [Instr.alloc, Sem.run_bind, z1, Result.andThen_ok, newVar, newRow, run_newObj, Sem.run_pure]
    rw [zero_cells z2]
    rfl
  · cases h

theorem box_sound {t : TypeId} {x : Rs Value} {k : Kn} {cs : List Value} {mk : Nat → Value} (hx : ∀ v, x = .ok v → vok ι D v) (h : boxA x = .ok (.new k cs mk)) :
    ∃ v, x = .ok v ∧ ∃ e v' w', (Instr.box t (ren ι v)).run cx.P w = .ok v' w' ∧ NK ι D k cs e w w' ∧ Mk mk e v' := by
  unfold boxA at h
  split at h
  · rename_i v
    cases h
    refine ⟨v, rfl, _, _, _, ?_, NK.cells t (vok_cells (hx v rfl)), mk_ptr _ _⟩
    simp only [Instr.box, Sem.run_bind, Result.andThen_ok, newVar, newRow, run_newObj, Sem.run_pure]
    have : ((v.cells.toList.map (ren ι)).toArray : Array Value) = (ren ι v).cells := by rw [← ren_cells]
    rw [this]
    rfl
  · cases h

theorem makeMap_sound (ok : CxOk cx) {t : TypeId} {r : Option Operand} {k : Kn} {cs : List Value} {mk : Nat → Value} (hr : ∀ x ∈ r, ∀ v, evalO T x = .ok v → ρ x = ren ι v)
    (h : makeMapA cx t (r.map (evalO T)) = .ok (.new k cs mk)) :
    ∃ e v' w', (Instr.makeMap t (r.map ρ)).run cx.P w = .ok v' w' ∧ NK ι D k cs e w w' ∧ Mk mk e v' := by
  unfold makeMapA at h
  split at h
  · rename_i kt et hu
    have hu' := und_sound ok hu
    cases r with
    | none =>
      simp only [Option.map_none] at h
      cases h
      refine ⟨_, _, _, ?_, NK.map, mk_map _ _⟩
      simp [Instr.makeMap]
    | some x =>
      simp only [Option.map_some] at h
      split at h
      · rename_i heq; cases heq
      · rename_i j n heq
        simp only [Option.some.injEq] at heq
        cases h
        refine ⟨_, _, _, ?_, NK.map, mk_map _ _⟩
        simp only [Instr.makeMap, Option.map_some, hr x (by simp) _ heq, ren, Sem.run_bind, run_underlying hu', Result.andThen_ok, asInt, asIntOf, Sem.run_pure, run_newObj]
        rfl
      · cases h
  · cases h

theorem buildSlice_sound (ok : CxOk cx) {t : TypeId} {len : Nat} {parts : Array (Nat × Operand)} {k : Kn} {cs : List Value} {mk : Nat → Value}
    (hρ : ∀ p ∈ parts.toList, ∀ v, evalO T p.2 = .ok v → ρ p.2 = ren ι v ∧ vok ι D v) (h : buildSliceA cx t len (evalParts T parts.toList) = .ok (.new k cs mk)) :
    ∃ e v' w', (Instr.buildSlice t len (parts.map fun (i, x) => (i, ρ x))).run cx.P w = .ok v' w' ∧ NK ι D k cs e w w' ∧ Mk mk e v' := by
  cases hp : evalParts T parts.toList with
  | er e => rw [hp] at h; cases h
  | ok ps =>
    rw [hp] at h
    obtain ⟨p1, p2⟩ := evalParts_sound _ _ hρ hp
    simp only [buildSliceA] at h
    split at h
    · rename_i e hu
      have hu' := und_sound ok hu
      cases hi : cx.info e with
      | none => rw [hi] at h; cases h
      | some i =>
        rw [hi] at h
        simp only [buildSliceI] at h
        cases hz : zeroI i with
        | none => rw [hz] at h; cases h
        | some z =>
          rw [hz] at h
          simp only at h
          split at h
          · rename_i hb
            obtain ⟨b1, b4⟩ := and_true hb
            obtain ⟨b1, b3⟩ := and_true b1
            obtain ⟨b1, b2⟩ := and_true b1
            have b1 := ble_le b1; have b2 := beq_eq b2; have b3 := ble_le b3; have b4 := ble_le b4
            unfold newR at h
            cases hf : fillA (placeR i.size) ps (rows z.cells.toList len) with
            | er e => rw [hf] at h; cases h
            | ok out =>
              rw [hf] at h
              cases h
              obtain ⟨z1, z2, z3⟩ := zeroI_ok (ι := ι) (D := D) hz
              obtain ⟨g1, g2, g3⟩ := fill_sound (ι := ι) (D := D) ps _ _ hf
              have hlen : cs.length = len * i.size := by rw [g2, rows_length]; simp [b2]
              have hok := g3 (fun v hv => vok_cells z3 v (rows_mem _ _ v hv)) p2
              have hmk := mk_slice (e := ⟨w.heap.size, 0, cs.length⟩) (len := len) (esz := i.size) (by omega) (by simp [hlen])
              have hcap : (cs.length - 0) / i.size = len := by rw [hlen, Nat.sub_zero, Nat.mul_div_cancel _ (by omega)]
              simp only [hcap] at hmk
              refine ⟨_, _, _, ?_, NK.cells e hok, hmk⟩
              have hs : sizeOf? cx e = some i.size := by simp [sizeOf?, hi]
              have hrow : (rows z.cells.toList len).map (ren ι) = rows z.cells.toList len := by
                rw [rows_map]
                congr 1
                rw [← ren_cells, z2]
              rw [hrow] at g1
              simp only [Instr.buildSlice, Sem.run_bind, run_underlying hu', Result.andThen_ok, run_sizeOf' ok hs]
              rw [if_neg (by omega)]
              have hne : ¬ (len * i.size = 0) := by
                have := Nat.mul_pos b4 b3
                omega
              simp only [Sem.run_pure, Result.andThen_ok, hne, if_false, run_zeroI (ok.info e i hi) z1, Sem.run_bind]
              rw [rows_model z.cells (by omega) len (len * i.size) (by rw [b2])]
              rw [show (parts.map fun (i, x) => (i, ρ x)).toList = ps.map fun p => (p.1, ren ι p.2) by rw [Array.toList_map, p1]]
              have g1' : Instr.fill (fun j => some (j * i.size, i.size)) (rows z.cells.toList len).toArray (ps.map fun p => (p.1, ren ι p.2)) = _ := g1
              rw [g1']
              simp [newRow]
          · cases h
    · cases h

theorem makeSlice_sound (ok : CxOk cx) {t : TypeId} {l c : Operand} {k : Kn} {cs : List Value} {mk : Nat → Value}
    (hl : ∀ v, evalO T l = .ok v → ρ l = ren ι v) (hc : ∀ v, evalO T c = .ok v → ρ c = ren ι v) (h : makeSliceA cx t (evalO T l) (evalO T c) = .ok (.new k cs mk)) :
    ∃ e v' w', (Instr.makeSlice t (ρ l) (ρ c)).run cx.P w = .ok v' w' ∧ NK ι D k cs e w w' ∧ Mk mk e v' := by
  unfold makeSliceA at h
  split at h
  · rename_i e hu
    have hu' := und_sound ok hu
    cases hi : cx.info e with
    | none => rw [hi] at h; cases h
    | some i =>
      rw [hi] at h
      simp only at h
      split at h
      · rename_i k1 L hL
        split at h
        · rename_i k2 C hC
          simp only [makeSliceI] at h
          cases hz : zeroI i with
          | none => rw [hz] at h; cases h
          | some z =>
            rw [hz] at h
            simp only at h
            split at h
            · rename_i hb
              obtain ⟨b1, b5⟩ := and_true hb
              obtain ⟨b1, b4⟩ := and_true b1
              obtain ⟨b1, b3⟩ := and_true b1
              obtain ⟨b1, b2⟩ := and_true b1
              have b1 := ble_le b1; have b2 := ble_le b2; have b3 := ble_le b3; have b4 := beq_eq b4; have b5 := ble_le b5
              cases h
              obtain ⟨z1, z2, z3⟩ := zeroI_ok (ι := ι) (D := D) hz
              have hlen : (rows z.cells.toList C).length = C * i.size := by rw [rows_length]; simp [b4]
              have hmk := mk_slice (e := ⟨w.heap.size, 0, (rows z.cells.toList C).length⟩) (len := L) (esz := i.size) (by omega) (by simp only [hlen, Nat.zero_add]; exact Nat.mul_le_mul_right _ b1)
              have hcap : ((rows z.cells.toList C).length - 0) / i.size = C := by rw [hlen, Nat.sub_zero, Nat.mul_div_cancel _ (by omega)]
              simp only [hcap] at hmk
              refine ⟨_, _, _, ?_, NK.cells e (fun v hv => vok_cells z3 v (rows_mem _ _ v hv)), hmk⟩
              have hs : sizeOf? cx e = some i.size := by simp [sizeOf?, hi]
              have hrow : (rows z.cells.toList C).map (ren ι) = rows z.cells.toList C := by
                rw [rows_map]
                congr 1
                rw [← ren_cells, z2]
              have w1 : IntKind.i64.wrap (Int.ofNat L) = Int.ofNat L := by rw [IntKind.wrap_i64]; simp only [Int.ofNat_eq_natCast]; omega
              have w2 : IntKind.i64.wrap (Int.ofNat C) = Int.ofNat C := by rw [IntKind.wrap_i64]; simp only [Int.ofNat_eq_natCast]; omega
              have hbig : (2 : Int) ^ 48 = 281474976710656 := by decide
              have n3 : ¬ ((L : Int) < 0) := by omega
              have n4 : ¬ ((C : Int) < (L : Int)) := by omega
              have t1 : ¬ ((C : Int) < 0) := by omega
              have t3 : ¬ (281474976710656 < (i.bytes : Int) * (C : Int)) := by
                have h4 : (i.bytes : Int) * (C : Int) = ((i.bytes * C : Nat) : Int) := by simp
                rw [h4]; omega
              simp only [Int.ofNat_eq_natCast] at w1 w2
              simp only [Instr.makeSlice, Sem.run_bind, run_underlying hu', Result.andThen_ok, hl _ hL, hc _ hC, ren, asInt, asIntOf, Sem.run_pure, run_typeInfo w (ok.info e i hi), Int.ofNat_eq_natCast, w1, w2, hbig, n3, n4, t1, t3]
              simp only [decide_false, Bool.or_self, gt_iff_lt, Bool.false_eq_true, if_false, Sem.run_bind, Result.andThen_ok, run_askRoom, run_sizeOf' ok hs]
              have hz0 : (Array.map (fun _ => (default : Value)) (Array.range 0)) = #[] := by simp
              by_cases hC0 : C * i.size = 0
              · have hCz : C = 0 := by
                  rcases Nat.mul_eq_zero.mp hC0 with h | h
                  · exact h
                  · omega
                subst hCz
                simp [newRow, rows]
                exact congrArg w.alloc (congrArg (Obj.cells · e) hz0)
              · rw [show ((C : Int).toNat) = C from Int.toNat_natCast C, if_neg hC0]
                simp only [Sem.run_bind, run_zeroI (ok.info e i hi) z1, Result.andThen_ok, Sem.run_pure]
                rw [rows_model z.cells (by omega) C (C * i.size) (by rw [b4]), hrow]
                simp [newRow]
            · cases h
        · cases h
      · cases h
  · cases h


theorem mk_view {b l esz : Nat} (h0 : 0 < esz) : Mk (sliceTo 0 esz) ⟨b, l, l⟩ (.slice (some ⟨b, l, none⟩) 0 0) := by
  have h := mk_slice (e := ⟨b, l, l⟩) (len := 0) (esz := esz) h0 (by simp)
  simpa using h

/-- 'x[lo:hi]' of a slice that is cut to nothing. -/
theorem slice_new (ok : CxOk cx) {t : TypeId} {a : Option Addr} {len esz : Nat} {lo hi mx : Option Operand} {k : Kn} {cs : List Value} {mk : Nat → Value} (hx : vok ι D (.slice a len esz))
    (hρl : ∀ x ∈ lo, ∀ v, evalO T x = .ok v → ρ x = ren ι v) (hρh : ∀ x ∈ hi, ∀ v, evalO T x = .ok v → ρ x = ren ι v) (hρm : ∀ x ∈ mx, ∀ v, evalO T x = .ok v → ρ x = ren ι v)
    (h : sliceA cx T t a len esz lo hi mx = .ok (.new k cs mk)) :
    ∃ e v' w', (Instr.sliceAt t (ren ι (.slice a len esz)) (lo.map ρ) (hi.map ρ) (mx.map ρ)).run cx.P w = .ok v' w' ∧ NK ι D k cs e w w' ∧ Mk mk e v' := by
  unfold sliceA at h
  cases hu : cx.und t with
  | none => rw [hu] at h; cases h
  | some d =>
    rw [hu] at h
    have hu' := und_sound ok hu
    cases d <;> simp only at h <;> try (cases h; done)
    rename_i e
    cases hs : sizeOf? cx e with
    | none => rw [hs] at h; cases h
    | some n =>
      rw [hs] at h
      simp only at h
      cases hl : bound? T 0 lo with
      | er w => rw [hl] at h; cases h
      | ok l =>
        rw [hl] at h
        simp only at h
        cases hh : bound? T len hi with
        | er w => rw [hh] at h; cases h
        | ok hgh =>
          rw [hh] at h
          simp only at h
          have run_at : ∀ x, (Instr.sliceAt t x (lo.map ρ) (hi.map ρ) (mx.map ρ)).run cx.P w = (Instr.slice t x (lo.map ρ) (hi.map ρ) (mx.map ρ)).run cx.P w := by
            intro x
            simp only [Instr.sliceAt, Sem.run_bind, run_underlying hu', Result.andThen_ok]
          rw [run_at]
          cases mx with
          | some m =>
            simp only at h
            cases hi with
            | none => cases h
            | some y =>
            simp only at h
            cases hm : boundV (evalO T m) with
            | er w => rw [hm] at h; cases h
            | ok mm =>
              rw [hm] at h
              simp only [slice3] at h
              split at h
              · rename_i hb
                obtain ⟨h1, h2⟩ := and_true hb
                obtain ⟨h1, h3⟩ := and_true h1
                have h1 := beq_eq h1; have h2 := beq_eq h2; have h3 := beq_eq h3
                subst h1; subst h2; subst h3
                split at h
                · cases h
                · rename_i b off
                  split at h
                  · rename_i hb2
                    obtain ⟨h3, h4⟩ := and_true hb2
                    have h3 := beq_eq h3
                    have h4 := ble_le h4
                    subst h3
                    cases h
                    refine ⟨⟨(ι b).blk, (ι b).shift + off, (ι b).shift + off⟩, _, w, ?_, NK.view (fun _ => Nat.le_refl _), mk_view h4⟩
                    simp only [Instr.slice, Sem.run_bind, run_underlying hu', Result.andThen_ok, ren, renA]
                    rw [bounds3_sound (cx := cx) (ι := ι) hl hh hm hρl (hρh y (by simp)) (hρm m (by simp))]
                    simp [run_sizeOf' ok hs]
                  · cases h
                · cases h
              · cases h
          | none =>
            simp only [sliceAt] at h
            split at h
            · rename_i hb
              obtain ⟨h1, h2⟩ := and_true hb
              have h1 := ble_le h1; have h2 := ble_le h2
              split at h
              · cases h
              · rename_i b off
                rw [vok] at hx
                obtain ⟨hD, _, h0, hlim⟩ := hx
                simp only at hlim
                have hcap := fun (j : Nat) (hj : j ≤ len) => cap_div (l := j) h0 hlim hj
                have hrun : (Instr.slice t (ren ι (.slice (some ⟨b, off, none⟩) len esz)) (lo.map ρ) (hi.map ρ) none).run cx.P w =
                    .ok (.slice (if ((ι b).limit - ((ι b).shift + off)) / esz = l then some ⟨(ι b).blk, (ι b).shift + off, none⟩ else some ⟨(ι b).blk, (ι b).shift + off + l * n, none⟩) (hgh - l) (((ι b).limit - ((ι b).shift + off)) / esz - l)) w := by
                  simp only [Instr.slice, Sem.run_bind, run_underlying hu', Result.andThen_ok, ren, renA]
                  rw [bounds_sound (cx := cx) (ι := ι) hl hh h1 (Nat.le_trans h2 (hcap 0 (Nat.zero_le _)).1) hρl hρh]
                  simp [run_sizeOf' ok hs, add_lit]
                rw [Option.map_none, hrun]
                split at h
                · rename_i hb2
                  obtain ⟨h3, h4⟩ := and_true hb2
                  have h3 := beq_eq h3
                  subst h3
                  cases l with
                  | zero => cases h
                  | succ l =>
                    simp only at h
                    split at h
                    · cases h
                    · rename_i hb3
                      cases h
                      have h5 : ¬ (l + 2 ≤ hgh) := fun hle => by rw [Nat.ble_eq_true_of_le hle] at hb3; cases hb3
                      obtain rfl : hgh = l + 1 := by omega
                      by_cases hR : ((ι b).limit - ((ι b).shift + off)) / n = l + 1
                      · refine ⟨⟨(ι b).blk, (ι b).shift + off, (ι b).shift + off⟩, _, w, ?_, NK.view (fun h => by cases h), mk_view h0⟩
                        rw [if_pos hR, hR, Nat.sub_self]
                      · have hle : (l + 1) * n ≤ len * n := Nat.mul_le_mul_right _ h2
                        refine ⟨⟨(ι b).blk, (ι b).shift + off + (l + 1) * n, (ι b).limit⟩, _, w, ?_, NK.view (fun h => by cases h), mk_slice h0 (by simp only; omega)⟩
                        rw [if_neg hR, (hcap (l + 1) (by omega)).2, Nat.sub_self]
                · cases h
              · cases h
            · cases h

theorem vv_only {r : Rs Value} {l : Li} (h : vv r = .ok l) : ∃ v, l = .val v := by
  unfold vv at h
  split at h
  · cases h; exact ⟨_, rfl⟩
  · cases h

theorem ofPure_only {r : Option Next} {l : Li} (h : ofPure r = .ok l) : ∃ v, l = .val v := by
  unfold ofPure ofVal at h
  (repeat' split at h) <;> first
    | (cases h; done)
    | (cases h; exact ⟨_, rfl⟩)

theorem sliceS_only {s : ByteArray} {a b : Nat} {l : Li} (h : sliceS s a b = .ok l) : ∃ v, l = .val v := by
  unfold sliceS at h
  split at h
  · cases h; exact ⟨_, rfl⟩
  · cases h

theorem aggV_only {r : Rs (List Value)} {l : Li} (h : aggV r = .ok l) : ∃ v, l = .val v := by
  unfold aggV at h
  split at h
  · cases h; exact ⟨_, rfl⟩
  · cases h

theorem byteR_only {r : Option UInt8} {l : Li} (h : byteR r = .ok l) : ∃ v, l = .val v := by
  unfold byteR at h
  split at h
  · cases h; exact ⟨_, rfl⟩
  · cases h

theorem slice_rest {T : Tr Value} {σ : Mem} {t : TypeId} {v : Rs Value} {lo hi mx : Option Operand} {l : Li} (h : sliceL cx T σ t v lo hi mx = .ok l) :
    (∃ u, l = .val u) ∨ ∃ a len esz, v = .ok (.slice a len esz) ∧ sliceA cx T t a len esz lo hi mx = .ok l := by
  unfold sliceL at h
  split at h
  · left
    unfold sliceT at h
    (repeat' split at h) <;> first
      | (cases h; done)
      | exact sliceS_only h
  · exact .inr ⟨_, _, _, rfl, h⟩
  · left
    unfold sliceArr at h
    (repeat' split at h) <;> first
      | (cases h; done)
      | (cases h; exact ⟨_, rfl⟩)
  · cases h
  · cases h

theorem slice_kn {T : Tr Value} {t : TypeId} {a : Option Addr} {len esz : Nat} {lo hi mx : Option Operand} {l : Li} (h : sliceA cx T t a len esz lo hi mx = .ok l) :
    (∃ u, l = .val u) ∨ ∃ k cs mk, l = .new k cs mk := by
  unfold sliceA slice3 sliceAt at h
  (repeat' split at h) <;> first
    | (cases h; done)
    | (cases h; exact .inl ⟨_, rfl⟩)
    | (cases h; exact .inr ⟨_, _, _, rfl⟩)

theorem bin_only {o : Oper} {T : Tr Value} {op : BinOp} {t : TypeId} {x y : Rs Value} {l : Li} (h : binE cx o T op t x y = .ok l) : ∃ v, l = .val v := by
  unfold binE binL binInt bin2 at h
  (repeat' split at h) <;> first
    | (cases h; done)
    | exact vv_only h
    | exact ofPure_only h

theorem un_only {o : Oper} {T : Tr Value} {op : UnOp} {x : Rs Value} {l : Li} (h : unA cx o T op x = .ok l) : ∃ v, l = .val v := by
  unfold unA byModel at h
  (repeat' split at h) <;> first
    | (cases h; done)
    | (cases h; exact ⟨_, rfl⟩)
    | exact ofPure_only h

theorem conv_only {o : Oper} {T : Tr Value} {s d : TypeId} {x : Rs Value} {l : Li} (h : convA cx o T s d x = .ok l) : ∃ v, l = .val v := by
  unfold convA convI byModel at h
  (repeat' split at h) <;> first
    | (cases h; done)
    | (cases h; exact ⟨_, rfl⟩)
    | exact ofPure_only h

theorem index_only {o : Oper} {T : Tr Value} {t : TypeId} {x i : Rs Value} {l : Li} (h : indexA cx o T t x i = .ok l) : ∃ v, l = .val v := by
  unfold indexA indexS byModel at h
  (repeat' split at h) <;> first
    | (cases h; done)
    | exact byteR_only h
    | exact ofPure_only h

theorem build_only {t : TypeId} {ps : Rs (List (Nat × Value))} {l : Li} (h : buildA cx t ps = .ok l) : ∃ v, l = .val v := by
  unfold buildA buildI at h
  (repeat' split at h) <;> first
    | (cases h; done)
    | exact aggV_only h

theorem misc_only {l : Li} :
    (∀ {σ t v}, loadL cx σ t v = .ok l → ∃ v, l = .val v) ∧ (∀ {v}, nilCheckA v = .ok l → ∃ v, l = .val v) ∧ (∀ {t v}, ifaceA cx t v = .ok l → ∃ v, l = .val v) ∧
    (∀ {f x y}, funcA f x y = .ok l → ∃ v, l = .val v) ∧ (∀ {s f v}, fieldAddrA cx s f v = .ok l → ∃ v, l = .val v) ∧ (∀ {s f v}, fieldA cx s f v = .ok l → ∃ v, l = .val v) ∧
    (∀ {t x i}, idxL cx t x i = .ok l → ∃ v, l = .val v) ∧ (∀ {σ t m k c}, lookL cx σ t m k c = .ok l → ∃ v, l = .val v) ∧ (∀ {a c x}, assertL cx a c x = .ok l → ∃ v, l = .val v) ∧
    (∀ {i x}, extractA i x = .ok l → ∃ v, l = .val v) ∧ (∀ {σ xs ts}, lenL cx σ xs ts = .ok l → ∃ v, l = .val v) ∧ (∀ {c T a b}, isPick c T a b = .ok l → ∃ v, l = .val v) := by
  refine ⟨?_, ?_, ?_, ?_, ?_, ?_, ?_, ?_, ?_, ?_, ?_, ?_⟩ <;> intros <;> rename_i h
  · unfold loadL at h; split at h <;> first | (cases h; done) | exact vv_only h
  · unfold nilCheckA at h; split at h <;> first | (cases h; done) | (cases h; exact ⟨_, rfl⟩)
  · unfold ifaceA at h; (repeat' split at h) <;> first | (cases h; done) | (cases h; exact ⟨_, rfl⟩)
  · unfold funcA funcV at h; (repeat' split at h) <;> first | (cases h; done) | (cases h; exact ⟨_, rfl⟩)
  · unfold fieldAddrA at h; (repeat' split at h) <;> first | (cases h; done) | exact vv_only h
  · unfold fieldA at h; (repeat' split at h) <;> first | (cases h; done) | exact vv_only h
  · unfold idxL at h; (repeat' split at h) <;> first | (cases h; done) | exact vv_only h
  · unfold lookL at h; (repeat' split at h) <;> first | (cases h; done) | exact vv_only h
  · unfold assertL at h; (repeat' split at h) <;> first | (cases h; done) | exact vv_only h
  · unfold extractA at h; (repeat' split at h) <;> first | (cases h; done) | exact vv_only h
  · unfold lenL at h; (repeat' split at h) <;> first | (cases h; done) | exact vv_only h
  · unfold isPick at h; (repeat' split at h) <;> first | (cases h; done) | exact vv_only h

/-- Does it make a block? -/
def mayMake : Op → Bool
  | .alloc .. => true
  | .box .. => true
  | .buildSlice .. => true
  | .makeMap .. => true
  | .makeSlice .. => true
  | .slice .. => true
  | _ => false

theorem light_only {o : Oper} {T : Tr Value} {σ : Mem} {l : Li} (hm : mayMake o.op = false) (h : light cx o T σ = some (.ok l)) : ∃ v, l = .val v := by
  obtain ⟨m1, m2, m3, m4, m5, m6, m7, m8, m9, m10, m11, m12⟩ := @misc_only cx l
  unfold light at h
  cases ho : o.op <;> rw [ho] at h hm <;> simp only [Option.some.injEq] at h <;> first
    | (cases h; done)
    | (cases hm; done)
    | exact vv_only h
    | exact bin_only h
    | exact un_only h
    | exact conv_only h
    | exact index_only h
    | exact build_only h
    | exact m1 h
    | exact m2 h
    | exact m3 h
    | exact m4 h
    | exact m5 h
    | exact m6 h
    | exact m7 h
    | exact m8 h
    | exact m9 h
    | exact m10 h
    | exact m12 h
    | skip
  rename_i c
  unfold lightCall byModel at h
  split at h <;> first
    | (cases h; done)
    | (simp only [Option.some.injEq] at h
       first
        | exact m11 h
        | (split at h <;> first
            | (cases h; done)
            | exact ofPure_only h))

/-- What is light and makes a block. -/
theorem light_new (ok : CxOk cx) {o : Oper} (hρ : Ops ι D T ρ o.op.operands) {k : Kn} {cs : List Value} {mk : Nat → Value} (h : light cx o T σ = some (.ok (.new k cs mk))) :
    ∃ e v' w', (execOp ρ o).run cx.P w = .ok (.value v') w' ∧ NK ι D k cs e w w' ∧ Mk mk e v' := by
  cases hm : mayMake o.op with
  | false => obtain ⟨v, hv⟩ := light_only hm h; cases hv
  | true =>
  unfold light at h
  cases ho : o.op <;> rw [ho] at h hm hρ <;> simp only [Option.some.injEq] at h <;> try (cases hm; done)
  case alloc t =>
    obtain ⟨e, v', w', h1, h2, h3⟩ := alloc_sound (ι := ι) (D := D) (w := w) ok h
    exact ⟨e, v', w', by simp only [execOp, ho]; exact run_v h1, h2, h3⟩
  case box t x =>
    obtain ⟨v, hx, e, v', w', h1, h2, h3⟩ := box_sound (cx := cx) (ι := ι) (D := D) (w := w) (t := t) (fun v hv => (hρ.at (by simp [Op.operands]) hv).2) h
    refine ⟨e, v', w', ?_, h2, h3⟩
    simp only [execOp, ho]
    rw [(hρ.at (by simp [Op.operands]) hx).1]
    exact run_v h1
  case buildSlice t len parts =>
    obtain ⟨e, v', w', h1, h2, h3⟩ := buildSlice_sound (w := w) (ι := ι) (D := D) (ρ := ρ) ok (fun p hp v hv => hρ.at (by simp [Op.operands]; exact ⟨p.1, by simpa using hp⟩) hv) h
    exact ⟨e, v', w', by simp only [execOp, ho]; exact run_v h1, h2, h3⟩
  case makeMap t r =>
    obtain ⟨e, v', w', h1, h2, h3⟩ := makeMap_sound (w := w) (ι := ι) (D := D) (ρ := ρ) ok (fun x hx v hv => (hρ.at (by simp at hx; subst hx; simp [Op.operands]) hv).1) h
    exact ⟨e, v', w', by simp only [execOp, ho]; exact run_v h1, h2, h3⟩
  case makeSlice t l c =>
    obtain ⟨e, v', w', h1, h2, h3⟩ := makeSlice_sound (w := w) (ι := ι) (D := D) (ρ := ρ) ok (fun v hv => (hρ.at (by simp [Op.operands]) hv).1) (fun v hv => (hρ.at (by simp [Op.operands]) hv).1) h
    exact ⟨e, v', w', by simp only [execOp, ho]; exact run_v h1, h2, h3⟩
  case slice t x lo hi mx =>
    rcases slice_rest h with ⟨u, hu⟩ | ⟨a, len, esz, hx, hs⟩
    · cases hu
    · obtain ⟨h1, h2⟩ := hρ.at (by simp [Op.operands]) hx
      obtain ⟨e, v', w', h3, h4, h5⟩ := slice_new (w := w) (ι := ι) (D := D) (ρ := ρ) ok h2 (fun z hz v hv => (hρ.at (by simp at hz; subst hz; simp [Op.operands]) hv).1)
        (fun z hz v hv => (hρ.at (by simp at hz; subst hz; simp [Op.operands]) hv).1) (fun z hz v hv => (hρ.at (by simp at hz; subst hz; simp [Op.operands]) hv).1) hs
      refine ⟨e, v', w', ?_, h4, h5⟩
      simp only [execOp, ho]
      rw [h1]
      exact run_v h3

/-- What is light never writes what is there. -/
theorem light_wr {o : Oper} {T : Tr Value} {σ : Mem} {b : Nat} {cs : List Value} {f s : Nat} (h : light cx o T σ = some (.ok (.wr b cs f s))) : False := by
  cases hm : mayMake o.op with
  | false => obtain ⟨v, hv⟩ := light_only hm h; cases hv
  | true =>
  unfold light at h
  cases ho : o.op <;> rw [ho] at h hm <;> simp only [Option.some.injEq] at h <;> try (cases hm; done)
  case alloc t => unfold allocA at h; split at h <;> cases h
  case box t x => unfold boxA at h; split at h <;> cases h
  case buildSlice t len parts =>
    unfold buildSliceA buildSliceI newR at h
    (repeat' split at h) <;> cases h
  case makeMap t r =>
    unfold makeMapA at h
    (repeat' split at h) <;> cases h
  case makeSlice t l c =>
    unfold makeSliceA makeSliceI at h
    (repeat' split at h) <;> cases h
  case slice t x lo hi mx =>
    rcases slice_rest h with ⟨u, hu⟩ | ⟨a, len, esz, hx, hs⟩
    · cases hu
    · rcases slice_kn hs with ⟨u, hu⟩ | ⟨_, _, _, hu⟩ <;> cases hu

end
end
end Go.VI
