/-
  VI: what acts, while an order is open.
-/
import Derived.Test.YtkfdjlhjeclcbaaGreatDoorViAdv
namespace Go.VI
open Go
noncomputable section

section
variable {cx : Cx} {rec : Rec} {ι ι' ι₀ : Emb} {D D' D₀ : Nat → Prop} {σ σ' σ₀ : Mem} {w w' w₀ : World} {ops : Array Oper} {done : Nat} {pe : List Pe} {a a' : Ac} {S : Nat → Prop} {old : Nat → Option Blk} {ac : Act} {p : No} {T : Tr Value} {rd : Option Nat}

theorem mine_mem {k : Nat} : ∀ {l : List Pe} {x : Pe}, x ∈ mine k l ↔ x ∈ l ∧ bit k x.i = true
  | [], x => by simp [mine]
  | y :: r, x => by
    simp only [mine]
    split
    · rename_i h
      simp only [List.mem_cons, mine_mem]
      constructor
      · rintro (h1 | ⟨h1, h2⟩)
        · subst h1; exact ⟨.inl rfl, h⟩
        · exact ⟨.inr h1, h2⟩
      · rintro ⟨h1 | h1, h2⟩
        · exact .inl h1
        · exact .inr ⟨h1, h2⟩
    · rename_i h
      simp only [List.mem_cons, mine_mem]
      constructor
      · rintro ⟨h1, h2⟩; exact ⟨.inr h1, h2⟩
      · rintro ⟨h1 | h1, h2⟩
        · subst h1; rw [h2] at h; cases h
        · exact ⟨h1, h2⟩

theorem left_mem {k : Nat} : ∀ {l : List Pe} {x : Pe}, x ∈ left k l ↔ x ∈ l ∧ bit k x.i = false
  | [], x => by simp [left]
  | y :: r, x => by
    simp only [left]
    split
    · rename_i h
      simp only [List.mem_cons, left_mem]
      constructor
      · rintro ⟨h1, h2⟩; exact ⟨.inr h1, h2⟩
      · rintro ⟨h1 | h1, h2⟩
        · subst h1; rw [h2] at h; cases h
        · exact ⟨h1, h2⟩
    · rename_i h
      simp only [List.mem_cons, left_mem]
      constructor
      · rintro (h1 | ⟨h1, h2⟩)
        · subst h1; exact ⟨.inl rfl, h⟩
        · exact ⟨.inr h1, h2⟩
      · rintro ⟨h1 | h1, h2⟩
        · exact .inl h1
        · exact .inr ⟨h1, h2⟩

theorem mine_pair {R : Pe → Pe → Prop} {k : Nat} : ∀ {l : List Pe}, l.Pairwise R → (mine k l).Pairwise R
  | [], _ => List.Pairwise.nil
  | y :: r, h => by
    obtain ⟨h1, h2⟩ := List.pairwise_cons.1 h
    simp only [mine]
    split
    · exact List.pairwise_cons.2 ⟨fun x hx => h1 x (mine_mem.1 hx).1, mine_pair h2⟩
    · exact mine_pair h2

theorem left_pair {R : Pe → Pe → Prop} {k : Nat} : ∀ {l : List Pe}, l.Pairwise R → (left k l).Pairwise R
  | [], _ => List.Pairwise.nil
  | y :: r, h => by
    obtain ⟨h1, h2⟩ := List.pairwise_cons.1 h
    simp only [left]
    split
    · exact left_pair h2
    · exact List.pairwise_cons.2 ⟨fun x hx => h1 x (left_mem.1 hx).1, left_pair h2⟩

theorem anyWr_ok : ∀ {l : List Pe}, anyWr l = false → ∀ x ∈ l, ∀ b cs f s, x.l ≠ .wr b cs f s
  | [], _, x, hx, _, _, _, _ => by cases hx
  | y :: r, h, x, hx, b, cs, f, s => by
    simp only [anyWr] at h
    split at h
    · cases h
    · rename_i hn
      rcases List.mem_cons.1 hx with hxy | hx
      · subst hxy; exact hn b cs f s
      · exact anyWr_ok h x hx b cs f s

/-- What one that acts looks at, is there. -/
theorem J.acts (hok : regionOk ops.toList (Ns ops) = true) (Jh : J cx ops ι₀ D₀ σ₀ w₀ done pe a σ S old ι D ac w) (hp : p ∈ Ns ops) (hnd : bit done p.i = false) (hanc : ∀ k, bit p.anc k = true → S k)
    {t : Tmp} (ht : t ∈ tmpsOf ops.toList p.o) {v : Value} (hv : a.T.get t = some v) : ac.tmps[t]? = some (ren ι v) ∧ vok ι D v := by
  refine Jh.vals t v hv fun q hq hqt hqd => ?_
  rcases regionOk_ok (and_true hok).2 p hp q hq t hqt ht with h | h | h
  · rw [← h, hnd] at hqd; cases hqd
  · exact hanc _ h
  · rw [Jh.clD q hq hqd _ h] at hnd; cases hnd

theorem J.actsOps (hok : regionOk ops.toList (Ns ops) = true) (Jh : J cx ops ι₀ D₀ σ₀ w₀ done pe a σ S old ι D ac w) (hp : p ∈ Ns ops) (hnd : bit done p.i = false) (hanc : ∀ k, bit p.anc k = true → S k) : Ops ι D a.T ac.eval p.o.op.operands := by
  intro x hx v hv
  cases x with
  | tmp t =>
    simp only [evalO, tmpO] at hv
    cases ht : a.T.get t with
    | none => rw [ht] at hv; cases hv
    | some u =>
      rw [ht] at hv
      cases hv
      obtain ⟨h1, h2⟩ := Jh.acts hok hp hnd hanc (tmpsOf_operand hx) ht
      exact ⟨by simp [Act.eval, h1], h2⟩
  | _ =>
    have hb : TR ι D (Tr.blank deepT) a.nt ac.tmps := ⟨full_blank _, Jh.size, Jh.most, fun k v hk => by rw [get_blank] at hk; cases hk⟩
    exact evalO_sound (a := ⟨Tr.blank deepT, a.nt, []⟩) Jh.rel.glob hb hv

theorem J.actsWant (hok : regionOk ops.toList (Ns ops) = true) (Jh : J cx ops ι₀ D₀ σ₀ w₀ done pe a σ S old ι D ac w) (hp : p ∈ Ns ops) (hnd : bit done p.i = false) (hanc : ∀ k, bit p.anc k = true → S k) {b : Bool} (hw : wantedA ops.toList p.o a.T = some b) :
    Region.wanted p.o (yielded ops ac.tmps) = b :=
  wanted_sound (ι := ι) (fun _ _ _ _ hg hd hv => (Jh.acts hok hp hnd hanc (tmpsOf_guard hg hd) hv).1) hw

/-- The memory that one that acts is at: what it must come behind is laid in. -/
theorem J.mem (Jh : J cx ops ι₀ D₀ σ₀ w₀ done pe a σ S old ι D ac w) (hanc : ∀ k, bit p.anc k = true → S k) :
    Own peBlk deep (mine p.anc pe) ∧ ∀ B b, (lay peBlk (mine p.anc pe) σ.h).get B = some b → (lay (pres S old) pe σ.h).get B = some b := by
  have hown : Own peBlk deep (mine p.anc pe) :=
    ⟨(mine_pair Jh.pone).imp fun {x y} h h1 h2 => h.2 h1 h2, fun x hx hn => by
      have h1 := (Jh.pid x (mine_mem.1 hx).1 hn).1
      have h2 : σ.next ≤ VI.most := Jh.rel.bound
      rw [deep_pow]
      unfold VI.most at h2
      omega⟩
  refine ⟨hown, fun B b hB => ?_⟩
  rcases lay_cases Jh.fullM hown hB with ⟨x, hx, hxB, hxb⟩ | ⟨_, hB⟩
  · obtain ⟨h1, h2⟩ := mine_mem.1 hx
    rw [← hxB]
    refine lay_in pe Jh.fullM (Jh.own S) h1 ?_
    unfold pres
    rw [if_pos (hanc _ h2)]
    exact hxb
  · exact Jh.get hB

/-- **ONE HAS ACTED.** -/
theorem J.acted (hok : regionOk ops.toList (Ns ops) = true) (Jh : J cx ops ι₀ D₀ σ₀ w₀ done pe a σ S old ι D ac w) (hp : p ∈ Ns ops) (hnd : bit done p.i = false) (hanc : ∀ k, bit p.anc k = true → S k) (hnw : anyWr (left p.anc pe) = false)
    {v : Value} {ds' : List Deferred} (R' : Rel ι' D' σ' w') (g : Go1 ι D { σ with h := lay peBlk (mine p.anc pe) σ.h } w ι' D' σ' w') (hv : vok ι' D' v) (hds : ∀ d ∈ ds', okD ι' D' d)
    (hput : ({ a with ds := ds' } : Ac).put p.o.dst v = .ok a') (hag : again cx σ' (left p.anc pe) = true) :
    J cx ops ι₀ D₀ σ₀ w₀ (done ||| 2 ^ p.i) (left p.anc pe) a' σ' (fun i => S i ∨ i = p.i) (fun _ => none) ι' D' (({ ac with defers := ds'.map (renD ι') } : Act).put p.o.dst (ren ι' v)) w' := by
  obtain ⟨hnt, hdsE, hT⟩ := put_eq hput
  obtain ⟨hownM, hsub⟩ := Jh.mem hanc
  obtain ⟨hS, hpe⟩ := Jh.notYet hnd
  have hx := g.ext
  have hbit : ∀ k, bit (done ||| 2 ^ p.i) k = true ↔ bit done k = true ∨ k = p.i := by
    intro k
    rw [bit_or, bit_two]
    simp only [Bool.or_eq_true, decide_eq_true_eq]
    exact ⟨fun h => h.imp id Eq.symm, fun h => h.imp id Eq.symm⟩
  have hfM := lay_full peBlk (mine p.anc pe) Jh.fullM
  have hpr : ∀ x ∈ left p.anc pe, ∀ b, pres (fun i => S i ∨ i = p.i) (fun _ => none) x = some b → S x.i ∧ peBlk x = some b := by
    intro x hxl b hb
    unfold pres at hb
    split at hb
    · rename_i h
      exact ⟨h.elim id fun h => absurd h (hpe x (left_mem.1 hxl).1), hb⟩
    · cases hb
  have hprn : ∀ x ∈ left p.anc pe, pres (fun i => S i ∨ i = p.i) (fun _ => none) x ≠ none → peBlk x ≠ none := by
    intro x hxl hn
    cases hb : pres (fun i => S i ∨ i = p.i) (fun _ => none) x with
    | none => exact absurd hb hn
    | some b => rw [(hpr x hxl b hb).2]; simp
  have hown : Own (pres (fun i => S i ∨ i = p.i) (fun _ => none)) deep (left p.anc pe) :=
    ⟨(left_pair Jh.pone).imp_of_mem fun {x y} hxl hyl h h1 h2 => h.2 (hprn x hxl h1) (hprn y hyl h2), fun x hxl hn => by
      have h1 := (Jh.pid x (left_mem.1 hxl).1 (hprn x hxl hn)).1
      have h2 : σ.next ≤ VI.most := Jh.rel.bound
      rw [deep_pow]
      unfold VI.most at h2
      omega⟩
  have hreal : ∀ x ∈ left p.anc pe, ∀ b, pres (fun i => S i ∨ i = p.i) (fun _ => none) x = some b → (lay (pres S old) pe σ.h).get x.id = some b := by
    intro x hxl b hb
    obtain ⟨h1, h2⟩ := hpr x hxl b hb
    refine lay_in pe Jh.fullM (Jh.own S) (left_mem.1 hxl).1 ?_
    unfold pres
    rw [if_pos h1]
    exact h2
  have hmine : ∀ y ∈ mine p.anc pe, ∀ x ∈ left p.anc pe, peBlk y ≠ none → peBlk x ≠ none → y.id ≠ x.id := by
    intro y hy x hxl h1 h2 he
    obtain ⟨y1, y2⟩ := mine_mem.1 hy
    obtain ⟨x1, x2⟩ := left_mem.1 hxl
    have := Jh.ids y1 x1 h1 h2 he
    subst this
    rw [y2] at x2
    cases x2
  have hRm : Rel ι D { σ with h := lay (pres (fun i => S i ∨ i = p.i) (fun _ => none)) (left p.anc pe) (lay peBlk (mine p.anc pe) σ.h) } w :=
    Jh.rel.sub (lay_full _ _ hfM) fun B b hB => by
      rcases lay_cases hfM hown hB with ⟨x, hxl, hxB, hxb⟩ | ⟨_, hB⟩
      · rw [← hxB]; exact hreal x hxl b hxb
      · exact hsub B b hB
  have hid : ∀ x ∈ left p.anc pe, pres (fun i => S i ∨ i = p.i) (fun _ => none) x ≠ none → x.id < σ.next ∧ (lay peBlk (mine p.anc pe) σ.h).get x.id = none := by
    intro x hxl hn
    have hb := hprn x hxl hn
    obtain ⟨h1, h2⟩ := Jh.pid x (left_mem.1 hxl).1 hb
    refine ⟨h1, ?_⟩
    rw [lay_out _ Jh.fullM hownM fun y hy hyn => hmine y hy x hxl hyn hb]
    exact h2
  have hcl : ∀ x ∈ left p.anc pe, ∀ cs f s, pres (fun i => S i ∨ i = p.i) (fun _ => none) x = some (.cells cs f s) → f = x.id ∧ σ.fams.get f = none ∧ ∀ B cs s, (lay peBlk (mine p.anc pe) σ.h).get B ≠ some (.cells cs f s) := by
    intro x hxl cs f s hb
    have hb := (hpr x hxl _ hb).2
    have hx1 := (left_mem.1 hxl).1
    have hbn : peBlk x ≠ none := by rw [hb]; simp
    unfold peBlk at hb
    split at hb
    · cases hb
    · rename_i k cs' mk hl
      have hf : f = x.id := by
        cases k <;> simp only [blkOf, Option.some.injEq, reduceCtorEq] at hb
        cases hb
        rfl
      subst hf
      obtain ⟨q1, q2, q3⟩ := Jh.pnew x hx1 _ _ _ hl
      refine ⟨rfl, q2, fun B c s' hB => ?_⟩
      rcases lay_cases Jh.fullM hownM hB with ⟨y, hy, hyB, hyb⟩ | ⟨_, hB⟩
      · have hyn : peBlk y ≠ none := by rw [hyb]; simp
        unfold peBlk at hyb
        split at hyb
        · cases hyb
        · rename_i k2 cs2 mk2 hl2
          cases k2 <;> simp only [blkOf, Option.some.injEq, reduceCtorEq, Blk.cells.injEq] at hyb
          exact hmine y hy x hxl hyn hbn hyb.2.1
        · rename_i hl2
          cases hyb
          exact (Jh.pwr y (mine_mem.1 hy).1 _ _ _ _ hl2).2.2 x hx1 _ _ _ hl rfl
      · exact q3 B c s' hB
    · rename_i hl
      exact absurd hl (anyWr_ok hnw x hxl _ _ _ _)
  have rel := frame_lay (σ := { σ with h := lay peBlk (mine p.anc pe) σ.h }) hRm hfM hown hid hcl g R'
  have go : Go1 ι₀ D₀ σ₀ w₀ ι' D' { σ' with h := lay (pres (fun i => S i ∨ i = p.i) (fun _ => none)) (left p.anc pe) σ'.h } w' :=
    Jh.go.comp hsub g fun B b hB => by
      rcases lay_cases R'.full hown hB with ⟨x, hxl, hxB, hxb⟩ | ⟨_, hB⟩
      · have h1 := hreal x hxl b hxb
        rw [← hxB]
        exact .inr ⟨h1, hx.em _ (Jh.rel.live _ _ h1).1⟩
      · exact .inl hB
  have hput' : (ac.put p.o.dst (ren ι' v)).tmps = (({ ac with defers := ds'.map (renD ι') } : Act).put p.o.dst (ren ι' v)).tmps := by cases p.o.dst <;> rfl
  have hgetT : ∀ {t}, p.o.dst ≠ some t → a'.T.get t = a.T.get t := by
    intro t hne
    rcases hT with ⟨_, hT⟩ | ⟨d, hd, hlt, hT⟩
    · rw [hT]
    · rw [hT, get_set Jh.full _ _ _ (lt_deepT Jh.most hlt), if_neg]
      intro he
      rw [he] at hne
      exact hne hd
  have hold : ∀ {t}, p.o.dst ≠ some t → (({ ac with defers := ds'.map (renD ι') } : Act).put p.o.dst (ren ι' v)).tmps[t]? = ac.tmps[t]? := by
    intro t hne
    rw [← hput']
    cases hd : p.o.dst with
    | none => rfl
    | some d =>
      show (ac.tmps.setIfInBounds d _)[t]? = _
      rw [Array.getElem?_setIfInBounds_ne (fun he => hne (by rw [hd, he]))]
  refine ⟨fun i h => (hbit i).2 (h.imp (Jh.sub i) id), fun q hq h k hk => ?_, fun q hq hqd k hk => ?_, R'.full, rel, go, ?_, ?_, ?_, ?_, ?_, fun t u hu hw => ?_, fun x hxl => (hbit _).2 (.inl (Jh.pin x (left_mem.1 hxl).1)), left_pair Jh.pone, fun x hxl hn => ?_, fun x hxl hn => absurd rfl hn, fun x hxl k cs mk hl => ?_,
    fun x hxl b cs f s hl => absurd hl (anyWr_ok hnw x hxl _ _ _ _), fun x hxl b cs f s hl => absurd hl (anyWr_ok hnw x hxl _ _ _ _), fun q hq hqd hqS => ?_⟩
  · rcases h with h | h
    · exact .inl (Jh.clS q hq h k hk)
    · have := number_uniq _ _ _ q p hq hp h
      subst this
      exact .inl (hanc k hk)
  · rcases (hbit _).1 hqd with h | h
    · exact (hbit _).2 (.inl (Jh.clD q hq h k hk))
    · have := number_uniq _ _ _ q p hq hp h
      subst this
      exact (hbit _).2 (.inl (Jh.sub _ (hanc k hk)))
  · rw [show (({ ac with defers := ds'.map (renD ι') } : Act).put p.o.dst (ren ι' v)).defers = ds'.map (renD ι') by cases p.o.dst <;> rfl, hdsE]
  · rw [hdsE]; exact hds
  · rcases hT with ⟨_, hT⟩ | ⟨d, _, _, hT⟩
    · rw [hT]; exact Jh.full
    · rw [hT]; exact full_set Jh.full _ _
  · rw [hnt, ← hput']
    show _ = a.nt
    rw [← Jh.size]
    cases p.o.dst <;> simp [Act.put]
  · rw [hnt]; exact Jh.most
  · by_cases hdt : p.o.dst = some t
    · rcases hT with ⟨h, _⟩ | ⟨d, hd, hlt, hT⟩
      · rw [h] at hdt; cases hdt
      · rw [hd] at hdt
        cases hdt
        rw [hT, get_set Jh.full _ _ _ (lt_deepT Jh.most hlt), if_pos rfl] at hu
        cases hu
        refine ⟨?_, hv⟩
        rw [← hput', hd]
        show (ac.tmps.setIfInBounds t _)[t]? = _
        rw [Array.getElem?_setIfInBounds_self_of_lt (by rw [Jh.size]; exact hlt)]
    · rw [hgetT hdt] at hu
      obtain ⟨h1, h2⟩ := Jh.vals t u hu fun q hq hqt hqd => (hw q hq hqt ((hbit _).2 (.inl hqd))).elim id fun h => by
        have := number_uniq _ _ _ q p hq hp h
        subst this
        exact absurd hqt hdt
      rw [hold hdt, hx.ren h2]
      exact ⟨h1, hx.vok h2⟩
  · obtain ⟨h1, h2⟩ := Jh.pid x (left_mem.1 hxl).1 hn
    refine ⟨Nat.lt_of_lt_of_le h1 g.next, ?_⟩
    cases hg : σ'.h.get x.id with
    | none => rfl
    | some b =>
      rcases g.live _ _ hg with h | ⟨b0, h⟩
      · simp only at h; omega
      · rw [show ({ σ with h := lay peBlk (mine p.anc pe) σ.h } : Mem).h.get x.id = σ.h.get x.id from lay_out _ Jh.fullM hownM fun y hy hyn => hmine y hy x hxl hyn hn, h2] at h
        cases h
  · obtain ⟨q1, q2, q3⟩ := Jh.pnew x (left_mem.1 hxl).1 k cs mk hl
    have hbn : peBlk x ≠ none := by simp [peBlk, hl]
    have hlt := (Jh.pid x (left_mem.1 hxl).1 hbn).1
    have hno : ∀ B c s', (lay peBlk (mine p.anc pe) σ.h).get B ≠ some (.cells c x.id s') := by
      intro B c s' hB
      rcases lay_cases Jh.fullM hownM hB with ⟨y, hy, hyB, hyb⟩ | ⟨_, hB⟩
      · have hyn : peBlk y ≠ none := by rw [hyb]; simp
        unfold peBlk at hyb
        split at hyb
        · cases hyb
        · rename_i k2 cs2 mk2 hl2
          cases k2 <;> simp only [blkOf, Option.some.injEq, reduceCtorEq, Blk.cells.injEq] at hyb
          exact hmine y hy x hxl hyn hbn hyb.2.1
        · rename_i hl2
          simp only [Option.some.injEq, Blk.cells.injEq] at hyb
          exact (Jh.pwr y (mine_mem.1 hy).1 _ _ _ _ hl2).2.2 x (left_mem.1 hxl).1 _ _ _ hl hyb.2.1
      · exact q3 B c s' hB
    obtain ⟨f1, f2⟩ := g.fams x.id hlt hno
    exact ⟨q1, f1.trans q2, f2⟩
  · have hqS1 : ¬ S q.i := fun h => hqS (.inl h)
    have hqp : q.i ≠ p.i := fun h => hqS (.inr h)
    have hqd1 : bit done q.i = true := ((hbit _).1 hqd).elim id fun h => absurd h hqp
    have hnq : bit p.anc q.i = false := by
      cases hb : bit p.anc q.i with
      | false => rfl
      | true => exact absurd (hanc _ hb) hqS1
    have hin : ∀ x ∈ pe, x.i = q.i → x ∈ left p.anc pe := fun x hx hi => left_mem.2 ⟨hx, by rw [hi]; exact hnq⟩
    have cl : ∀ {T}, Claim ι D ops a ac.tmps q T → Claim ι' D' ops a' (({ ac with defers := ds'.map (renD ι') } : Act).put p.o.dst (ren ι' v)).tmps q T := by
      intro T hc t ht
      obtain ⟨c1, c2⟩ := hc t ht
      refine ⟨fun r hr hrt hra => ?_, fun hn u hu => ?_⟩
      · rw [c1 r hr hrt hra, hgetT]
        intro he
        have := writer_one hok hr hp hrt he
        subst this
        rw [Jh.clD q hq hqd1 _ hra] at hnd
        cases hnd
      · obtain ⟨c3, c4⟩ := c2 hn u hu
        rw [hold, hx.ren c4]
        · exact ⟨c3, hx.vok c4⟩
        · intro he
          rcases regionOk_ok (and_true hok).2 q hq p hp t he ht with h | h | h
          · exact hqp h
          · rw [hn p hp he] at h; cases h
          · rw [hnq] at h; cases h
    have am : ∀ {u}, Aims a q u → Aims a' q u := by
      intro u ha d hd
      obtain ⟨h1, h2⟩ := ha d hd
      rw [hgetT (fun h => hqp (by rw [writer_one hok hq hp hd h])), hnt]
      exact ⟨h1, h2⟩
    cases Jh.und q hq hqd1 hqS1 with
    | skip T hc hw hn hd => exact .skip T (cl hc) hw (fun x hxl => hn x (left_mem.1 hxl).1) (am hd)
    | val T u hc hw x hxm hi hxo hxT hxl hl hd =>
      have hl' := still hag x (hin x hxm hi) u hxl (σ := σ) (by rw [hxo, hxT]; exact hl)
      rw [hxo, hxT] at hl'
      exact .val T u (cl hc) hw x (hin x hxm hi) hi hxo hxT hxl hl' (am hd)
    | new T x k cs mk hc hw hxm hi hxl hl hD hd =>
      have hbn : peBlk x ≠ none := by simp [peBlk, hxl]
      refine .new T x k cs mk (cl hc) hw (hin x hxm hi) hi hxl (light_new_any hl _) (fun h => ?_) (am hd)
      rcases g.fresh _ h with h1 | h1
      · exact hD h1
      · have := (Jh.pid x hxm hbn).1
        simp only at h1
        omega
    | wr T x t ad xo off n xv cs0 f s hc hw hxm hi hxl => exact absurd hxl (anyWr_ok hnw x (hin x hxm hi) _ _ _ _)

end
end
end Go.VI
