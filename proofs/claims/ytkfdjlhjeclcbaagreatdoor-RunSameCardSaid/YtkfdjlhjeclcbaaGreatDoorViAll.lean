/-
  VI: a region whose order is open, to its end.
-/
import Derived.Test.YtkfdjlhjeclcbaaGreatDoorViAct
namespace Go.VI
open Go
noncomputable section

section
variable {cx : Cx} {rec : Rec} {ι ι' ι₀ : Emb} {D D' D₀ : Nat → Prop} {σ σ' σ₀ : Mem} {w w' w₀ : World} {ops : Array Oper} {done : Nat} {pe : List Pe} {a a' : Ac} {S : Nat → Prop} {old : Nat → Option Blk} {ac : Act} {p : No} {T : Tr Value} {rd : Option Nat}

theorem allBelow_ok {n : Nat} : ∀ {l : List Nat}, allBelow n l = true → ∀ k ∈ l, k < n
  | [], _, k, h => by cases h
  | x :: r, h, k, hk => by
    simp only [allBelow] at h
    obtain ⟨h1, h2⟩ := and_true h
    rcases List.mem_cons.1 hk with hk | hk
    · subst hk; exact ble_le h1
    · exact allBelow_ok h2 k hk

theorem region_below {ops : List Oper} {l : List No} : ∀ {l' : List No}, regionOkL ops l l' = true → ∀ p ∈ l', ∀ k ∈ edgesL p.o.after.toList, k < p.i
  | [], _, p, h => by simp at h
  | x :: r, h, p, hp => by
    simp only [regionOkL] at h
    obtain ⟨h1, h2⟩ := and_true h
    obtain ⟨h1, _⟩ := and_true h1
    obtain ⟨h1, _⟩ := and_true h1
    rcases List.mem_cons.1 hp with hp | hp
    · subst hp; exact allBelow_ok h1
    · exact region_below h2 p hp

theorem open_ok {p : No} (h : isOpen done p = true) : bit done p.i = false ∧ ∀ k, bit p.anc k = true → bit done k = true := by
  unfold isOpen at h
  obtain ⟨h1, h2⟩ := and_true h
  exact ⟨by simpa using h1, fun k hk => bit_sub h2 hk⟩

theorem open_is {p : No} (h : bit done p.i = false) (h2 : ∀ k, bit p.anc k = true → bit done k = true) : isOpen done p = true := by
  unfold isOpen
  rw [h]
  simp only [Bool.not_false, Bool.true_and]
  have : done &&& p.anc = p.anc := by
    apply Nat.eq_of_testBit_eq
    intro k
    rw [Nat.testBit_and]
    cases hk : p.anc.testBit k with
    | false => simp
    | true =>
      have := h2 k (by rw [bit_eq]; exact hk)
      rw [bit_eq] at this
      simp [this]
  rw [this]
  exact Nat.beq_refl _

theorem readyAll_mem {l : List No} {p : No} : p ∈ readyAll done l ↔ p ∈ l ∧ isOpen done p = true := by
  induction l with
  | nil => simp [readyAll]
  | cons x r ih =>
    simp only [readyAll]
    split
    · rename_i h
      simp only [List.mem_cons, ih]
      constructor
      · rintro (h1 | ⟨h1, h2⟩)
        · subst h1; exact ⟨.inl rfl, h⟩
        · exact ⟨.inr h1, h2⟩
      · rintro ⟨h1 | h1, h2⟩
        · exact .inl h1
        · exact .inr ⟨h1, h2⟩
    · rename_i h
      simp only [List.mem_cons, ih]
      constructor
      · rintro ⟨h1, h2⟩; exact ⟨.inr h1, h2⟩
      · rintro ⟨h1 | h1, h2⟩
        · subst h1; rw [h2] at h; cases h
        · exact ⟨h1, h2⟩

theorem nextLight_ok {ops : List Oper} {T : Tr Value} : ∀ {l : List No} {p : No}, nextLight ops done T l = some p → p ∈ l ∧ isOpen done p = true
  | [], p, h => by cases h
  | x :: r, p, h => by
    simp only [nextLight] at h
    split at h
    · rename_i h1
      cases h
      exact ⟨by simp, (and_true h1).1⟩
    · obtain ⟨h1, h2⟩ := nextLight_ok h
      exact ⟨List.mem_cons_of_mem _ h1, h2⟩

theorem allDone_ok {l : List No} (h : allDone done l = true) : ∀ p ∈ l, bit done p.i = true := by
  induction l with
  | nil => intro p hp; cases hp
  | cons x r ih =>
    simp only [allDone] at h
    obtain ⟨h1, h2⟩ := and_true h
    intro p hp
    rcases List.mem_cons.1 hp with hp | hp
    · subst hp; exact h1
    · exact ih h2 p hp

/-- What is listed. -/
def Lst (S : Nat → Prop) (ops : Array Oper) (listed : Array Bool) : Prop := listed.size = ops.size ∧ ∀ i, S i ↔ listed[i]? = some true

theorem Lst.set {listed : Array Bool} (h : Lst S ops listed) {i : Nat} (hi : i < ops.size) : Lst (fun j => S j ∨ j = i) ops (listed.setIfInBounds i true) := by
  refine ⟨by simp [h.1], fun j => ?_⟩
  by_cases hj : j = i
  · subst hj
    rw [Array.getElem?_setIfInBounds_self_of_lt (by rw [h.1]; exact hi)]
    simp
  · rw [Array.getElem?_setIfInBounds_ne (fun he => hj he.symm), ← h.2 j]
    simp [hj]

def unlisted (listed : Array Bool) : Nat := listed.toList.count false

theorem unlisted_set {listed : Array Bool} {i : Nat} (h : listed[i]? = some false) : unlisted (listed.setIfInBounds i true) + 1 = unlisted listed := by
  unfold unlisted
  have hlt : i < listed.toList.length := by simpa using (Array.getElem?_eq_some_iff.1 h).1
  have hv : listed.toList[i] = false := by
    have := (Array.getElem?_eq_some_iff.1 h).2
    simpa using this
  have hp : 0 < listed.toList.count false := List.count_pos_iff.2 (by rw [← hv]; exact List.getElem_mem hlt)
  rw [Array.toList_setIfInBounds, List.count_set hlt]
  simp only [hv, beq_self_eq_true, if_true]
  have : (true == false) = false := rfl
  rw [this]
  simp only [Bool.false_eq_true, if_false]
  omega

theorem real_ready (hcl : ∀ p ∈ Ns ops, S p.i → ∀ k, bit p.anc k = true → S k) {listed : Array Bool} (hl : Lst S ops listed) {i : Nat} (hi : i ∈ Region.ready .any ops listed) :
    ∃ p ∈ Ns ops, p.i = i ∧ i < ops.size ∧ listed[i]? = some false ∧ ¬ S p.i ∧ ∀ k, bit p.anc k = true → S k := by
  obtain ⟨h1, o, ho, h2⟩ := mem_ready.1 hi
  have hlt : i < ops.size := (Array.getElem?_eq_some_iff.1 ho).1
  have hf : listed[i]? = some false := by
    have hlt' : i < listed.size := by rw [hl.1]; exact hlt
    rw [Array.getElem?_eq_getElem hlt']
    simp [Array.getD, hlt'] at h1
    rw [h1]
  obtain ⟨p, p1, p2, p3⟩ := number_has ops.toList 0 [] i o (by simpa using ho)
  have p2 : p.i = i := by omega
  refine ⟨p, p1, p2, hlt, hf, fun h => ?_, fun k hk => ?_⟩
  · rw [p2, hl.2, hf] at h; cases h
  · refine anc_closed hcl p1 (fun e he => ?_) hk
    rw [p3] at he
    obtain ⟨x, x1, x2, x3⟩ := (edges_ok _ _).1 he
    have := h2 x (by simpa using x1) x2
    rw [hl.2, ← x3]
    rw [Array.getD_eq_getD_getElem?] at this
    cases hg : listed[x.on]? with
    | none => rw [hg] at this; cases this
    | some b => rw [hg] at this; simp only [Option.getD_some] at this; rw [this]

theorem all_listed (hok : regionOk ops.toList (Ns ops) = true) {listed : Array Bool} (hl : Lst S ops listed) (hr : Region.ready .any ops listed = []) : ∀ i, i < ops.size → S i := by
  intro i
  induction i using Nat.strongRecOn with
  | _ i ih =>
    intro hi
    refine Classical.byContradiction fun hS => ?_
    have hlt' : i < listed.size := by rw [hl.1]; exact hi
    have hf : listed.getD i true = false := by
      cases hb : listed[i] with
      | false => simp [Array.getD, hlt', hb]
      | true => exact absurd ((hl.2 i).2 (by rw [Array.getElem?_eq_getElem hlt', hb])) hS
    have ho : ops[i]? = some ops[i] := Array.getElem?_eq_getElem hi
    obtain ⟨p, p1, p2, p3⟩ := number_has ops.toList 0 [] i ops[i] (by simp [hi])
    have p2 : p.i = i := by omega
    have : i ∈ Region.ready .any ops listed := by
      refine mem_ready.2 ⟨hf, ops[i], ho, fun e he hb => ?_⟩
      have hm : e.on ∈ edgesL p.o.after.toList := by
        rw [p3]
        exact (edges_ok _ _).2 ⟨e, by simpa using he, hb, rfl⟩
      have hlt := region_below (and_true hok).2 p p1 _ hm
      have := (hl.2 _).1 (ih e.on (by omega) (by omega))
      rw [Array.getD_eq_getD_getElem?, this]
      rfl
    rw [hr] at this
    cases this

/-- Nothing is left that isn't listed. -/
theorem none_left {listed : Array Bool} (hl : Lst S ops listed) (h : unlisted listed = 0) : ∀ i, i < ops.size → S i := by
  intro i hi
  rw [hl.2]
  have hlt' : i < listed.size := by rw [hl.1]; exact hi
  rw [Array.getElem?_eq_getElem hlt']
  cases hb : listed[i] with
  | true => rfl
  | false =>
    exfalso
    have : false ∈ listed.toList := by
      rw [← hb]
      exact Array.mem_toList_iff.2 (Array.getElem_mem hlt')
    have := List.count_pos_iff.2 this
    unfold unlisted at h
    omega

theorem none_ready {listed : Array Bool} (hl : Lst S ops listed) (hcl : ∀ p ∈ Ns ops, S p.i → ∀ k, bit p.anc k = true → S k) (h : ∀ i, i < ops.size → S i) : Region.ready .any ops listed = [] := by
  refine List.eq_nil_iff_forall_not_mem.2 fun i hi => ?_
  obtain ⟨p, _, p2, p3, _, p5, _⟩ := real_ready hcl hl hi
  exact p5 (by rw [p2]; exact h i p3)

theorem Ns_lt {p : No} (hp : p ∈ Ns ops) : p.i < ops.size := by
  obtain ⟨j, hj, hji⟩ := number_mem _ _ _ p hp
  have h2 : j < ops.toList.length := (List.getElem?_eq_some_iff.1 hj).1
  have h3 : ops.toList.length = ops.size := by simp
  omega

/-- **ALL IS DONE THERE TOO.** -/
theorem J.last (Jh : J cx ops ι₀ D₀ σ₀ w₀ done pe a σ S old ι D ac w) (hall : ∀ i, i < ops.size → S i) (hpe : ∀ x ∈ pe, S x.i) :
    PostCode ι₀ D₀ σ₀ w₀ (.code .normal a (settleAll pe σ)) .normal ac w := by
  have he : lay (pres S old) pe σ.h = lay peBlk pe σ.h := lay_congr pe _ fun x hx => by
    unfold pres
    rw [if_pos (hpe x hx)]
  refine ⟨.normal, a, settleAll pe σ, ι, D, rfl, ?_, ?_, ⟨⟨Jh.full, Jh.size, Jh.most, fun t v hv => Jh.vals t v hv fun p hp _ _ => hall _ (Ns_lt hp)⟩, Jh.dfr, Jh.dok⟩, rfl⟩
  · rw [settleAll_lay, ← he]; exact Jh.rel
  · rw [settleAll_lay, ← he]; exact Jh.go

theorem get_none_subT {t : Tr Value} : ∀ {k B : Nat} {b : Value}, (t.set k none).get B = some b → t.get B = some b := by
  induction t with
  | lf => intro k B b h; exact h
  | nd v l r ihl ihr =>
    intro k B b h
    cases k with
    | zero =>
      cases B with
      | zero => cases h
      | succ B => rw [get_nd]; have h : (Tr.nd none l r).get (B + 1) = some b := h; rw [get_nd] at h; exact h
    | succ k =>
      rw [set_nd] at h
      cases B with
      | zero => split at h <;> exact h
      | succ B =>
        rw [get_nd]
        split at h
        · rw [get_nd] at h
          split at h
          · rename_i h1; rw [if_pos h1]; exact ihl h
          · rename_i h1; rw [if_neg h1]; exact h
        · rw [get_nd] at h
          split at h
          · rename_i h1; rw [if_pos h1]; exact h
          · rename_i h1; rw [if_neg h1]; exact ihr h

theorem get_lt {α : Type} {d : Nat} {t : Tr α} (h : Full d t) {k : Nat} {v : α} : t.get k = some v → k + 1 < 2 ^ d := by
  induction h generalizing k with
  | lf => intro h; cases h
  | @nd d _ l r _ _ ihl ihr =>
    have hp : 2 ^ (d + 1) = 2 ^ d * 2 := Nat.pow_succ ..
    have h1 : 1 ≤ 2 ^ d := Nat.one_le_two_pow
    cases k with
    | zero => intro _; omega
    | succ k =>
      intro h
      rw [get_nd] at h
      split at h
      · have := ihl h; omega
      · have := ihr h; omega

/-- What was written in the region isn't known any more. -/
theorem forget_ok : ∀ (os : List Oper) {T : Tr Value}, Full deepT T → Full deepT (forget os T) ∧ ∀ t v, (forget os T).get t = some v → T.get t = some v ∧ ∀ o ∈ os, o.dst ≠ some t
  | [], T, hf => ⟨hf, fun t v h => ⟨h, fun o ho => by cases ho⟩⟩
  | o :: r, T, hf => by
    simp only [forget]
    cases ho : o.dst with
    | none =>
      obtain ⟨h1, h2⟩ := forget_ok r hf
      refine ⟨h1, fun t v h => ⟨(h2 t v h).1, fun o' ho' => ?_⟩⟩
      rcases List.mem_cons.1 ho' with ho' | ho'
      · subst ho'; rw [ho]; simp
      · exact (h2 t v h).2 o' ho'
    | some d =>
      have hsub : ∀ t v, (T.set d none).get t = some v → T.get t = some v := fun t v h => get_none_subT h
      obtain ⟨h1, h2⟩ := forget_ok r (full_set hf d none)
      refine ⟨h1, fun t v h => ⟨hsub t v (h2 t v h).1, fun o' ho' => ?_⟩⟩
      rcases List.mem_cons.1 ho' with ho' | ho'
      · subst ho'
        rw [ho]
        intro he
        cases he
        have h3 := (h2 d v h).1
        rw [get_set hf _ _ _ (get_lt hf (hsub d v h3)), if_pos rfl] at h3
        cases h3
      · exact (h2 t v h).2 o' ho'

theorem storeD_go {o : Oper} {i : Nat} {x : Pe} (h : storeD cx o i pe a σ = .go x a' σ') :
    ∃ t ad xo b off xv cs fam start n, o.op = .store t ad xo ∧ evalO a.T ad = .ok (.pointer (some ⟨b, off, none⟩)) ∧ evalO a.T xo = .ok xv ∧ storeB cx σ t b off xv = some (cs, fam, start, n) ∧ others fam pe = true ∧
      a.put o.dst undef = .ok a' ∧ x = ⟨i, o, a.T, b, .wr b cs fam start⟩ ∧ σ' = { σ with h := (killAll b (start + off) n (family σ fam) σ.h).set b none } := by
  unfold storeD at h
  split at h
  · rename_i t ad xo hop
    unfold storeX at h
    split at h
    · rename_i b off had
      split at h
      · rename_i xv hxo
        unfold storeP at h
        split at h
        · rename_i cs fam start k hst
          split at h
          · rename_i hot
            unfold poR at h
            split at h
            · rename_i a2 hput
              cases h
              exact ⟨t, ad, xo, b, off, xv, cs, fam, start, k, hop, had, hxo, hst, hot, hput, rfl, rfl⟩
            · cases h
          · cases h
        · cases h
      · cases h
    · cases h
  · cases h

/-- **TO THE END**: whatever the real order, what was done here first is what comes of it. -/
theorem drawn_sound (Sd : Sound cx rec) (ok : CxOk cx) (hok : regionOk ops.toList (Ns ops) = true) (hr : okR D₀ rd) {out : Out} : ∀ (n : Nat) (done : Nat) (pe : List Pe) (a : Ac) (σ : Mem), (∀ i, bit done i = true → i < ops.size) → drawn cx rec rd ops.toList (Ns ops) n done pe a σ = .ok out →
    ∀ (m : Nat) (S : Nat → Prop) (old : Nat → Option Blk) (ι : Emb) (D : Nat → Prop) (ac : Act) (w : World) (listed : Array Bool), J cx ops ι₀ D₀ σ₀ w₀ done pe a σ S old ι D ac w → Lst S ops listed → unlisted listed ≤ m →
      wpAnyIn (fenceOf ι₀ rd) 0 cx.P .any ops (PostCode ι₀ D₀ σ₀ w₀ out) m listed ac w := by
  intro n
  induction n with
  | zero => intro done pe a σ _ h; cases h
  | succ n ihn =>
    intro done pe a σ hdn h
    have up : ∀ p ∈ Ns ops, ∀ i, bit (done ||| 2 ^ p.i) i = true → i < ops.size := by
      intro p hp i hi
      rw [bit_or, bit_two] at hi
      simp only [Bool.or_eq_true, decide_eq_true_eq] at hi
      rcases hi with hi | hi
      · exact hdn i hi
      · rw [← hi]; exact Ns_lt hp
    simp only [drawn] at h
    cases hn : nextLight ops.toList done a.T (Ns ops) with
    | some p =>
      obtain ⟨hp, hopen⟩ := nextLight_ok hn
      obtain ⟨hnd, hanc⟩ := open_ok hopen
      rw [hn] at h
      simp only [drStep] at h
      intro m S old ι D ac w listed Jh hl hm
      cases hw : wantedA ops.toList p.o a.T with
      | none => rw [hw] at h; simp only [drLight] at h; cases h
      | some b =>
        rw [hw] at h
        cases b with
        | false =>
          simp only [drLight] at h
          cases hput : a.put p.o.dst undef with
          | er e => rw [hput] at h; simp only [drSkip] at h; cases h
          | ok a' =>
            rw [hput] at h
            simp only [drSkip] at h
            obtain ⟨old', J'⟩ := Jh.takeSkip hok hp hnd hanc hw hput
            exact ihn _ _ _ _ (up _ hp) h m S old' ι D ac w listed J' hl hm
        | true =>
          simp only [drLight] at h
          cases hlt : light cx p.o a.T σ with
          | none => rw [hlt] at h; simp only [lightD, drP] at h; cases h
          | some r =>
            rw [hlt] at h
            cases r with
            | er e => simp only [lightD, drP] at h; cases h
            | ok li =>
              simp only [lightD] at h
              cases li with
              | val v =>
                simp only [lightP, poR] at h
                cases hput : a.put p.o.dst v with
                | er e => rw [hput] at h; simp only [drP] at h; cases h
                | ok a' =>
                  rw [hput] at h
                  simp only [drP] at h
                  obtain ⟨old', J'⟩ := Jh.takeVal hok hp hnd hanc hw hlt hput
                  exact ihn _ _ _ _ (up _ hp) h m S old' ι D ac w listed J' hl hm
              | new k cs mk =>
                simp only [lightP] at h
                cases hmost : Nat.ble (σ.next + 4) most with
                | false => rw [hmost] at h; simp only [drP] at h; cases h
                | true =>
                  rw [hmost] at h
                  simp only [poR] at h
                  cases hput : a.put p.o.dst (mk σ.next) with
                  | er e => rw [hput] at h; simp only [drP] at h; cases h
                  | ok a' =>
                    rw [hput] at h
                    simp only [drP] at h
                    obtain ⟨old', J'⟩ := Jh.takeNew hok hp hnd hanc hw hlt (ble_le hmost) hput
                    exact ihn _ _ _ _ (up _ hp) h m S old' ι D ac w listed J' hl hm
              | wr b cs f s => exact (light_wr hlt).elim
    | none =>
      rw [hn] at h
      simp only [drStep] at h
      -- one that waits is done there, or one that is ready here acts there
      have two : ∀ p, p ∈ readyAll done (Ns ops) → (match drTwo cx p done pe a σ (wantedA ops.toList p.o a.T) with
            | .go done pe a σ => drawn cx rec rd ops.toList (Ns ops) n done pe a σ
            | .out r => r) = .ok out → ∀ (m : Nat) (S : Nat → Prop) (old : Nat → Option Blk) (ι : Emb) (D : Nat → Prop) (ac : Act) (w : World) (listed : Array Bool), J cx ops ι₀ D₀ σ₀ w₀ done pe a σ S old ι D ac w → Lst S ops listed → unlisted listed ≤ m →
          wpAnyIn (fenceOf ι₀ rd) 0 cx.P .any ops (PostCode ι₀ D₀ σ₀ w₀ out) m listed ac w := by
        intro p hpr h m S old ι D ac w listed Jh hl hm
        obtain ⟨hp, hopen⟩ := readyAll_mem.1 hpr
        obtain ⟨hnd, hanc⟩ := open_ok hopen
        cases hw : wantedA ops.toList p.o a.T with
        | none => rw [hw] at h; simp only [drTwo] at h; cases h
        | some b =>
          rw [hw] at h
          cases b with
          | false => simp only [drTwo] at h; cases h
          | true =>
            simp only [drTwo] at h
            cases hst : storeD cx p.o p.i pe a σ with
            | er e => rw [hst] at h; simp only [drPA] at h; cases h
            | go x a' σ' =>
              obtain ⟨t, ad, xo, b, off, xv, cs, fam, start, k, hop, had, hxo, hsb, hot, hput, rfl, rfl⟩ := storeD_go hst
              rw [hst] at h
              simp only [drPA] at h
              cases hag : again cx { σ with h := (killAll b (start + off) k (family σ fam) σ.h).set b none } pe with
              | false => rw [hag] at h; cases h
              | true =>
                rw [hag] at h
                obtain ⟨old', J'⟩ := Jh.takeWr hok hp hnd hanc hw hop had hxo hsb hot hput hag
                exact ihn _ _ _ _ (up _ hp) h m S old' ι D ac w listed J' hl hm
      cases hrd : readyAll done (Ns ops) with
      | nil =>
        rw [hrd] at h
        simp only [drReady] at h
        cases hall : allDone done (Ns ops) with
        | false => rw [hall] at h; cases h
        | true =>
          rw [hall] at h
          cases h
          have hall := allDone_ok hall
          intro m
          induction m with
          | zero =>
            intro S old ι D ac w listed Jh hl hm
            have hS := none_left hl (Nat.le_zero.1 hm)
            exact ⟨none_ready hl Jh.clS hS, Jh.last hS fun x hx => hS _ (hdn _ (Jh.pin x hx))⟩
          | succ m ihm =>
            intro S old ι D ac w listed Jh hl hm
            refine ⟨fun hr => Jh.last (all_listed hok hl hr) fun x hx => all_listed hok hl hr _ (hdn _ (Jh.pin x hx)), fun i hi => ?_⟩
            obtain ⟨q, q1, q2, q3, q4, q5, q6⟩ := real_ready Jh.clS hl hi
            subst q2
            refine real_undone ok hok Jh q1 (hall q q1) q5 q6 fun old' ι' D' ac' w' J' => ?_
            exact ihm _ old' ι' D' ac' w' _ J' (hl.set q3) (by have := unlisted_set q4; omega)
      | cons p r =>
        have hpr : p ∈ readyAll done (Ns ops) := by rw [hrd]; simp
        cases r with
        | cons p2 r =>
          rw [hrd] at h
          simp only [drReady] at h
          exact two p hpr h
        | nil =>
          rw [hrd] at h
          simp only [drReady] at h
          cases haw : anyWr (left p.anc pe) with
          | true => rw [haw] at h; exact two p hpr h
          | false =>
            rw [haw] at h
            obtain ⟨hp, hopen⟩ := readyAll_mem.1 hpr
            obtain ⟨hnd, hanc⟩ := open_ok hopen
            cases hw : wantedA ops.toList p.o a.T with
            | none => rw [hw] at h; simp only [drHeavy] at h; cases h
            | some b =>
              rw [hw] at h
              cases b with
              | false => simp only [drHeavy] at h; cases h
              | true =>
                simp only [drHeavy] at h
                intro m
                induction m with
                | zero =>
                  intro S old ι D ac w listed Jh hl hm
                  have hS := none_left hl (Nat.le_zero.1 hm)
                  have := Jh.sub _ (hS _ (Ns_lt hp))
                  rw [hnd] at this
                  cases this
                | succ m ihm =>
                  intro S old ι D ac w listed Jh hl hm
                  refine ⟨fun hr => ?_, fun i hi => ?_⟩
                  · have hS := all_listed hok hl hr
                    have := Jh.sub _ (hS _ (Ns_lt hp))
                    rw [hnd] at this
                    cases this
                  · obtain ⟨q, q1, q2, q3, q4, q5, q6⟩ := real_ready Jh.clS hl hi
                    subst q2
                    have hcnt : unlisted (listed.setIfInBounds q.i true) ≤ m := by have := unlisted_set q4; omega
                    cases hqd : bit done q.i with
                    | true =>
                      refine real_undone ok hok Jh q1 hqd q5 q6 fun old' ι' D' ac' w' J' => ?_
                      exact ihm _ old' ι' D' ac' w' _ J' (hl.set q3) hcnt
                    | false =>
                      have hqr : q ∈ readyAll done (Ns ops) := readyAll_mem.2 ⟨q1, open_is hqd fun k hk => Jh.sub _ (q6 k hk)⟩
                      rw [hrd] at hqr
                      simp only [List.mem_singleton] at hqr
                      subst hqr
                      obtain ⟨hownM, hsub⟩ := Jh.mem q6
                      have hfM := lay_full peBlk (mine q.anc pe) Jh.fullM
                      have hRm : Rel ι D { σ with h := lay peBlk (mine q.anc pe) σ.h } w := Jh.rel.sub hfM hsub
                      unfold wpOpIn
                      obtain ⟨j, hj, hji⟩ := number_mem _ _ _ q q1
                      have hop : ops[q.i]? = some q.o := by
                        rw [hji, Nat.zero_add]
                        simpa using hj
                      rw [hop]
                      simp only
                      rw [Jh.actsWant hok q1 hnd q6 hw, if_pos rfl]
                      rw [← fenceOf_ext Jh.go.ext hr]
                      refine heavy_sound (σ := { σ with h := lay peBlk (mine q.anc pe) σ.h }) Sd ok hRm (Jh.actsOps hok q1 hnd q6) Jh.dfr Jh.dok ⟨fun v ds' σ' ι' D' w' hf R' g' hv hds => ?_, fun c σ' ι' D' w' hf R' g' hc => ?_, fun why hf => ?_⟩
                      · rw [settleAll_lay, hf] at h
                        unfold fin goR at h
                        cases hput : ({ a with ds := ds' } : Ac).put q.o.dst v with
                        | er e => rw [hput] at h; simp only [drBack] at h; cases h
                        | ok a' =>
                          rw [hput] at h
                          simp only [drBack] at h
                          cases hag : again cx σ' (left q.anc pe) with
                          | false => rw [hag] at h; cases h
                          | true =>
                            rw [hag] at h
                            have J' := Jh.acted hok q1 hnd q6 haw R' g' hv hds hput hag
                            rw [fenceOf_ext Jh.go.ext hr]
                            exact ihn _ _ _ _ (up _ hp) h m _ _ ι' D' _ w' _ J' (hl.set q3) hcnt
                      · rw [settleAll_lay, hf] at h
                        simp only [drBack] at h
                        cases h
                        obtain ⟨f1, f2⟩ := forget_ok ops.toList Jh.full
                        refine ⟨_, _, σ', ι', D', rfl, R', Jh.go.comp hsub g' (hB := σ'.h) fun B b hB => .inl hB, ⟨⟨f1, Jh.size, Jh.most, fun t v hv => ?_⟩, ?_, ?_⟩, hc, rfl⟩
                        · obtain ⟨h1, h2⟩ := f2 t v hv
                          obtain ⟨h3, h4⟩ := Jh.vals t v h1 fun p' hp' hpt _ => by
                            obtain ⟨j', hj', _⟩ := number_mem _ _ _ p' hp'
                            exact absurd hpt (h2 p'.o (List.mem_of_getElem? hj'))
                          rw [g'.ext.ren h4]
                          exact ⟨h3, g'.ext.vok h4⟩
                        · rw [Jh.dfr]
                          exact List.map_congr_left fun d hd => ((renD_ext g'.ext (Jh.dok d hd)).1).symm
                        · exact fun d hd => (renD_ext g'.ext (Jh.dok d hd)).2
                      · rw [settleAll_lay, hf] at h
                        simp only [drBack] at h
                        cases h

end
end
end Go.VI
