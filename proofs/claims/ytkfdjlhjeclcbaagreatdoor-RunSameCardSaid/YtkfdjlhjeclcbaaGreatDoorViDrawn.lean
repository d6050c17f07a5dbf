/-
  VI: operations whose order is open.
-/
import Derived.Test.YtkfdjlhjeclcbaaGreatDoorViLay
namespace Go.VI
open Go
noncomputable section

section
variable {cx : Cx} {rec : Rec} {ι ι' ι₀ : Emb} {D D' D₀ : Nat → Prop} {σ σ' σ₀ : Mem} {w w' w₀ : World}

/-! ### One step of both, seen from the start -/

/-- Less of what is there at the end. -/
theorem Go1.less (G : Go1 ι₀ D₀ σ₀ w₀ ι D σ w) {h' : Tr Blk} (hs : ∀ B b, h'.get B = some b → σ.h.get B = some b) : Go1 ι₀ D₀ σ₀ w₀ ι D { σ with h := h' } w where
  ext := G.ext
  fresh := G.fresh
  next := G.next
  size := G.size
  frame := G.frame
  range B b hB := G.range B b (hs B b hB)
  live B b hB := G.live B b (hs B b hB)
  fams f hf hn := ⟨(G.fams f hf hn).1, fun B cs s hB => (G.fams f hf hn).2 B cs s (hs B _ hB)⟩
  tape := G.tape
  os := G.os
  output := G.output

/-- A step from less than what is there, what was left out kept. -/
theorem Go1.comp (G : Go1 ι₀ D₀ σ₀ w₀ ι D σ w) {hm : Tr Blk} (hs : ∀ B b, hm.get B = some b → σ.h.get B = some b) (g : Go1 ι D { σ with h := hm } w ι' D' σ' w')
    {hB : Tr Blk} (hk : ∀ B b, hB.get B = some b → σ'.h.get B = some b ∨ (σ.h.get B = some b ∧ ι' B = ι B)) : Go1 ι₀ D₀ σ₀ w₀ ι' D' { σ' with h := hB } w' where
  ext := G.ext.trans g.ext
  fresh B h := by
    rcases g.fresh B h with h1 | h1
    · exact G.fresh B h1
    · exact .inr (Nat.le_trans G.next h1)
  next := Nat.le_trans G.next g.next
  size := Nat.le_trans G.size g.size
  frame b hb hn := by
    rw [g.frame b (Nat.lt_of_lt_of_le hb G.size) ?_, G.frame b hb hn]
    intro B blk hB' hw he
    rcases G.range B blk (hs B blk hB') (writes_lies hw) with h1 | ⟨B0, b0, h1, _, h2, h3⟩
    · omega
    · exact hn B0 b0 h1 (h2 hw) (h3.trans he)
  range B blk hB' hl := by
    have old : ∀ B1 b1, σ.h.get B1 = some b1 → lies b1 = true → (writes blk = true → writes b1 = true) → (ι B1).blk = (ι' B).blk →
        w₀.heap.size ≤ (ι' B).blk ∨ ∃ B0 blk0, σ₀.h.get B0 = some blk0 ∧ lies blk0 = true ∧ (writes blk = true → writes blk0 = true) ∧ (ι₀ B0).blk = (ι' B).blk := by
      intro B1 b1 h1 h2 h3 h4
      rcases G.range B1 b1 h1 h2 with h5 | ⟨B0, b0, h5, h6, h7, h8⟩
      · exact .inl (by rw [← h4]; exact h5)
      · exact .inr ⟨B0, b0, h5, h6, fun hw => h7 (h3 hw), h8.trans h4⟩
    rcases hk B blk hB' with h | ⟨h, he⟩
    · rcases g.range B blk h hl with h1 | ⟨B1, b1, h1, h2, h3, h4⟩
      · exact .inl (Nat.le_trans G.size h1)
      · exact old B1 b1 (hs B1 b1 h1) h2 h3 h4
    · exact old B blk h hl id (by rw [he])
  live B blk hB' := by
    rcases hk B blk hB' with h | ⟨h, _⟩
    · rcases g.live B blk h with h1 | ⟨b, h1⟩
      · exact .inl (Nat.le_trans G.next h1)
      · exact G.live B b (hs B b h1)
    · exact G.live B blk h
  fams f hf hn := by
    obtain ⟨h1, h2⟩ := G.fams f hf hn
    obtain ⟨h3, h4⟩ := g.fams f (Nat.lt_of_lt_of_le hf G.next) (fun B cs s h => h2 B cs s (hs B _ h))
    refine ⟨h3.trans h1, fun B cs s hB' => ?_⟩
    rcases hk B _ hB' with h | ⟨h, _⟩
    · exact h4 B cs s h
    · exact h2 B cs s h
  tape := g.tape.trans G.tape
  os := g.os.trans G.os
  output := g.output.trans G.output

/-- A block whose number was kept comes in. -/
theorem Go1.come (G : Go1 ι₀ D₀ σ₀ w₀ ι D σ w) {k : Kn} {cs : List Value} {e : Em} (h : NK ι D k cs e w w') {id : Nat} (hid : ¬ D id) (hlo : σ₀.next ≤ id)
    {hB : Tr Blk} (hk : ∀ B b, hB.get B = some b → (B = id ∧ b = blkOf k cs id) ∨ (B ≠ id ∧ σ.h.get B = some b)) : Go1 ι₀ D₀ σ₀ w₀ (upd ι id e) (addD D id) { σ with h := hB } w' := by
  obtain ⟨_, h2, h3, h4, h5, h6, h7, h8⟩ := h.block hid
  have hx := upd_ext (ι := ι) (e := e) hid
  refine ⟨G.ext.trans hx, fun B hB' => ?_, G.next, Nat.le_trans G.size h5, fun b hb hn => ?_, fun B blk hB' hl => ?_, fun B blk hB' => ?_, fun f hf hn => ⟨(G.fams f hf hn).1, fun B c s hB' => ?_⟩, h6.trans G.tape, h7.trans G.os, h8.trans G.output⟩
  · rcases hB' with hB' | hB'
    · exact G.fresh B hB'
    · exact .inr (by rw [hB']; exact hlo)
  · rw [h4 b (Nat.lt_of_lt_of_le hb G.size), G.frame b hb hn]
  · rcases hk B blk hB' with ⟨rfl, rfl⟩ | ⟨hne, hB'⟩
    · rw [upd_same, (h2 hl).1]
      exact .inl G.size
    · rw [upd_other hne]
      exact G.range B blk hB' hl
  · rcases hk B blk hB' with ⟨rfl, rfl⟩ | ⟨hne, hB'⟩
    · exact .inl hlo
    · exact G.live B blk hB'
  · rcases hk B _ hB' with ⟨rfl, hh⟩ | ⟨hne, hB'⟩
    · have := (h3 c f s hh.symm).1
      omega
    · exact (G.fams f hf hn).2 B c s hB'

/-! ### What is so while an order is open -/

abbrev Ns (ops : Array Oper) : List No := number ops.toList 0 []

open Classical in
/-- The block that lies there now for one that waits. -/
def pres (S : Nat → Prop) (old : Nat → Option Blk) (x : Pe) : Option Blk := if S x.i then peBlk x else old x.i

/-- What an operation looks at, while it isn't done. -/
def Claim (ι : Emb) (D : Nat → Prop) (ops : Array Oper) (a : Ac) (tmps : Array Value) (p : No) (T : Tr Value) : Prop :=
  ∀ t ∈ tmpsOf ops.toList p.o, (∀ q ∈ Ns ops, q.o.dst = some t → bit p.anc q.i = true → T.get t = a.T.get t) ∧
    ((∀ q ∈ Ns ops, q.o.dst = some t → bit p.anc q.i = false) → ∀ v, T.get t = some v → tmps[t]? = some (ren ι v) ∧ vok ι D v)

/-- Where it writes, that is known ahead. -/
def Aims (a : Ac) (p : No) (v : Value) : Prop := ∀ d, p.o.dst = some d → a.T.get d = some v ∧ d < a.nt

/-- An operation that is done there, and not yet here. -/
inductive Und (cx : Cx) (ι : Emb) (D : Nat → Prop) (ops : Array Oper) (pe : List Pe) (a : Ac) (σ : Mem) (S : Nat → Prop) (old : Nat → Option Blk) (tmps : Array Value) (p : No) : Prop
  | skip (T : Tr Value) (hc : Claim ι D ops a tmps p T) (hw : wantedA ops.toList p.o T = some false) (hn : ∀ x ∈ pe, x.i ≠ p.i) (hd : Aims a p undef)
  | val (T : Tr Value) (v : Value) (hc : Claim ι D ops a tmps p T) (hw : wantedA ops.toList p.o T = some true) (x : Pe) (hx : x ∈ pe) (hi : x.i = p.i) (hxo : x.o = p.o) (hxT : x.T = T) (hxl : x.l = .val v) (hl : light cx p.o T σ = some (.ok (.val v))) (hd : Aims a p v)
  | new (T : Tr Value) (x : Pe) (k : Kn) (cs : List Value) (mk : Nat → Value) (hc : Claim ι D ops a tmps p T) (hw : wantedA ops.toList p.o T = some true) (hx : x ∈ pe) (hi : x.i = p.i) (hxl : x.l = .new k cs mk)
      (hl : light cx p.o T σ = some (.ok (.new k cs mk))) (hD : ¬ D x.id) (hd : Aims a p (mk x.id))
  | wr (T : Tr Value) (x : Pe) (t : TypeId) (ad xo : Operand) (off n : Nat) (xv : Value) (cs0 : List Value) (f s : Nat) (hc : Claim ι D ops a tmps p T) (hw : wantedA ops.toList p.o T = some true) (hx : x ∈ pe) (hi : x.i = p.i)
      (hxl : x.l = .wr x.id (overwrite cs0 off xv.cells.toList) f s) (ho : p.o.op = .store t ad xo) (ha : evalO T ad = .ok (.pointer (some ⟨x.id, off, none⟩))) (hv : evalO T xo = .ok xv)
      (hs : sizeOf? cx t = some n) (hn : xv.cells.size = n) (hfit : off + n ≤ cs0.length) (hc1 : areCells xv.cells.toList = true) (hold : old p.i = some (.cells cs0 f s))
      (hno : ∀ B cs' s', σ.h.get B = some (.cells cs' f s') → overlaps (some (.cells cs' f s')) (s + off) n = false) (hd : Aims a p undef)

/-- **WHAT IS SO WHILE AN ORDER IS OPEN**: what is known here, and what the machine is at. -/
structure J (cx : Cx) (ops : Array Oper) (ι₀ : Emb) (D₀ : Nat → Prop) (σ₀ : Mem) (w₀ : World) (done : Nat) (pe : List Pe) (a : Ac) (σ : Mem) (S : Nat → Prop) (old : Nat → Option Blk) (ι : Emb) (D : Nat → Prop) (ac : Act) (w : World) : Prop where
  sub : ∀ i, S i → bit done i = true
  clS : ∀ p ∈ Ns ops, S p.i → ∀ k, bit p.anc k = true → S k
  clD : ∀ p ∈ Ns ops, bit done p.i = true → ∀ k, bit p.anc k = true → bit done k = true
  fullM : Full deep σ.h
  rel : Rel ι D { σ with h := lay (pres S old) pe σ.h } w
  go : Go1 ι₀ D₀ σ₀ w₀ ι D { σ with h := lay (pres S old) pe σ.h } w
  dfr : ac.defers = a.ds.map (renD ι)
  dok : ∀ d ∈ a.ds, okD ι D d
  full : Full deepT a.T
  size : ac.tmps.size = a.nt
  most : a.nt ≤ mostT
  vals : ∀ t v, a.T.get t = some v → (∀ p ∈ Ns ops, p.o.dst = some t → bit done p.i = true → S p.i) → ac.tmps[t]? = some (ren ι v) ∧ vok ι D v
  pin : ∀ x ∈ pe, bit done x.i = true
  pone : pe.Pairwise fun x y => x.i ≠ y.i ∧ (peBlk x ≠ none → peBlk y ≠ none → x.id ≠ y.id)
  pid : ∀ x ∈ pe, peBlk x ≠ none → x.id < σ.next ∧ σ.h.get x.id = none
  pold : ∀ x ∈ pe, old x.i ≠ none → ∃ cs f s cs0, x.l = .wr x.id cs f s ∧ old x.i = some (.cells cs0 f s)
  pnew : ∀ x ∈ pe, ∀ k cs mk, x.l = .new k cs mk → σ₀.next ≤ x.id ∧ σ.fams.get x.id = none ∧ ∀ B cs s, σ.h.get B ≠ some (.cells cs x.id s)
  pwr : ∀ x ∈ pe, ∀ b cs f s, x.l = .wr b cs f s → b = x.id ∧ (∀ y ∈ pe, x.i ≠ y.i → ∀ b' cs' s', y.l ≠ .wr b' cs' f s') ∧ (∀ y ∈ pe, ∀ k cs mk, y.l = .new k cs mk → f ≠ y.id)
  pwf : ∀ x ∈ pe, ∀ b cs f s, x.l = .wr b cs f s → f < σ.next
  und : ∀ p ∈ Ns ops, bit done p.i = true → ¬ S p.i → Und cx ι D ops pe a σ S old ac.tmps p

variable {ops : Array Oper} {done : Nat} {pe : List Pe} {a : Ac} {S : Nat → Prop} {old : Nat → Option Blk} {ac : Act} {p : No} {T : Tr Value}

theorem tmpsO_mem : ∀ {xs : List Operand} {t : Tmp}, Operand.tmp t ∈ xs → t ∈ tmpsO xs
  | [], t, h => by cases h
  | x :: r, t, h => by
    rcases List.mem_cons.1 h with h' | h'
    · subst h'; simp [tmpsO]
    · have := tmpsO_mem h'
      cases x <;> simp [tmpsO, this]

theorem tmpsOf_operand {o : Oper} {t : Tmp} (h : Operand.tmp t ∈ o.op.operands) : t ∈ tmpsOf ops.toList o := by
  have h := tmpsO_mem (xs := o.op.operands.toList) (by simpa using h)
  unfold tmpsOf
  split
  · split
    · exact List.mem_cons_of_mem _ h
    · exact h
  · exact h

theorem tmpsOf_guard {o : Oper} {j : Nat} {want : Bool} {t : Tmp} (h : o.guard = some (j, want)) (hd : dstOf ops.toList[j]? = some t) : t ∈ tmpsOf ops.toList o := by
  unfold tmpsOf
  rw [h]
  simp only [hd]
  exact List.mem_cons_self ..

/-- Who writes a place is one alone. -/
theorem writer_one (hok : regionOk ops.toList (Ns ops) = true) {q r : No} (hq : q ∈ Ns ops) (hr : r ∈ Ns ops) {d : Tmp} (h1 : q.o.dst = some d) (h2 : r.o.dst = some d) : q = r := by
  obtain ⟨h, _⟩ := and_true hok
  obtain ⟨j, hj, hji⟩ := number_mem _ _ _ q hq
  obtain ⟨k, hk, hki⟩ := number_mem _ _ _ r hr
  have := (dstOnce_ok _ _ h).2 j k q.o r.o d hj hk h1 h2
  exact number_uniq _ _ _ q r hq hr (by omega)

/-- What a ready one looks at is there. -/
theorem claim_there (hok : regionOk ops.toList (Ns ops) = true) (Jh : J cx ops ι₀ D₀ σ₀ w₀ done pe a σ S old ι D ac w) (hc : Claim ι D ops a ac.tmps p T) (hanc : ∀ k, bit p.anc k = true → S k)
    {t : Tmp} (ht : t ∈ tmpsOf ops.toList p.o) {v : Value} (hv : T.get t = some v) : ac.tmps[t]? = some (ren ι v) ∧ vok ι D v := by
  obtain ⟨h1, h2⟩ := hc t ht
  by_cases hq : ∃ q ∈ Ns ops, q.o.dst = some t ∧ bit p.anc q.i = true
  · obtain ⟨q, q1, q2, q3⟩ := hq
    rw [h1 q q1 q2 q3] at hv
    refine Jh.vals t v hv fun r r1 r2 _ => ?_
    rw [writer_one hok r1 q1 r2 q2]
    exact hanc _ q3
  · refine h2 (fun q q1 q2 => ?_) v hv
    cases hb : bit p.anc q.i with
    | false => rfl
    | true => exact absurd ⟨q, q1, q2, hb⟩ hq

theorem ops_there (hok : regionOk ops.toList (Ns ops) = true) (Jh : J cx ops ι₀ D₀ σ₀ w₀ done pe a σ S old ι D ac w) (hc : Claim ι D ops a ac.tmps p T) (hanc : ∀ k, bit p.anc k = true → S k) : Ops ι D T ac.eval p.o.op.operands := by
  intro x hx v hv
  cases x with
  | tmp t =>
    simp only [evalO, tmpO] at hv
    cases ht : T.get t with
    | none => rw [ht] at hv; cases hv
    | some u =>
      rw [ht] at hv
      cases hv
      obtain ⟨h1, h2⟩ := claim_there hok Jh hc hanc (tmpsOf_operand hx) ht
      exact ⟨by simp [Act.eval, h1], h2⟩
  | _ =>
    have hb : TR ι D (Tr.blank deepT) a.nt ac.tmps := ⟨full_blank _, Jh.size, Jh.most, fun k v hk => by rw [get_blank] at hk; cases hk⟩
    exact evalO_sound (a := ⟨Tr.blank deepT, a.nt, []⟩) Jh.rel.glob hb hv

theorem wanted_there (hok : regionOk ops.toList (Ns ops) = true) (Jh : J cx ops ι₀ D₀ σ₀ w₀ done pe a σ S old ι D ac w) (hc : Claim ι D ops a ac.tmps p T) (hanc : ∀ k, bit p.anc k = true → S k) {b : Bool} (hw : wantedA ops.toList p.o T = some b) :
    Region.wanted p.o (yielded ops ac.tmps) = b :=
  wanted_sound (ι := ι) (fun _ _ _ _ hg hd hv => (claim_there hok Jh hc hanc (tmpsOf_guard hg hd) hv).1) hw

/-- A place that another one writes is no matter to who isn't done. -/
theorem claim_put (hok : regionOk ops.toList (Ns ops) = true) (hx : Ext ι D ι' D') {q : No} (hp : p ∈ Ns ops) (hq : q ∈ Ns ops) (hne : q.i ≠ p.i) (hnq : ¬ bit p.anc q.i = true) (hc : Claim ι D ops a ac.tmps q T) {v : Value} :
    Claim ι' D' ops a (ac.put p.o.dst v).tmps q T := by
  intro t ht
  obtain ⟨h1, h2⟩ := hc t ht
  refine ⟨h1, fun hn u hu => ?_⟩
  obtain ⟨h3, h4⟩ := h2 hn u hu
  rw [hx.ren h4]
  refine ⟨?_, hx.vok h4⟩
  cases hd : p.o.dst with
  | none => exact h3
  | some d =>
    by_cases hdt : d = t
    · subst hdt
      rcases regionOk_ok (and_true hok).2 q hq p hp d hd ht with h | h | h
      · exact absurd h hne
      · rw [hn p hp hd] at h; cases h
      · exact absurd h hnq
    · show (ac.tmps.setIfInBounds d v)[t]? = _
      rw [Array.getElem?_setIfInBounds_ne hdt]
      exact h3

theorem lay_congr {m m' : Pe → Option Blk} : ∀ (l : List Pe) (h : Tr Blk), (∀ x ∈ l, m x = m' x) → lay m l h = lay m' l h
  | [], _, _ => rfl
  | x :: r, h, he => by
    simp only [lay, he x (by simp)]
    split
    · exact lay_congr r _ fun y hy => he y (List.mem_cons_of_mem _ hy)
    · exact lay_congr r _ fun y hy => he y (List.mem_cons_of_mem _ hy)

theorem J.blk (Jh : J cx ops ι₀ D₀ σ₀ w₀ done pe a σ S old ι D ac w) (S' : Nat → Prop) {x : Pe} (hx : x ∈ pe) (h : pres S' old x ≠ none) : peBlk x ≠ none := by
  unfold pres at h
  split at h
  · exact h
  · obtain ⟨cs, f, s, cs0, h1, _⟩ := Jh.pold x hx h
    simp [peBlk, h1]

theorem J.own (Jh : J cx ops ι₀ D₀ σ₀ w₀ done pe a σ S old ι D ac w) (S' : Nat → Prop) : Own (pres S' old) deep pe where
  one := Jh.pone.imp_of_mem fun {x y} hx hy h h1 h2 => h.2 (Jh.blk S' hx h1) (Jh.blk S' hy h2)
  lt x hx h := by
    have h1 := (Jh.pid x hx (Jh.blk S' hx h)).1
    have h2 : σ.next ≤ VI.most := Jh.rel.bound
    rw [deep_pow]
    unfold VI.most at h2
    omega

theorem pair_index {R : Pe → Pe → Prop} (hR : ∀ x y, R x y → x.i ≠ y.i) : ∀ {l : List Pe}, l.Pairwise R → ∀ {x y : Pe}, x ∈ l → y ∈ l → x.i = y.i → x = y
  | [], _, x, _, hx, _, _ => by cases hx
  | z :: r, hp, x, y, hx, hy, he => by
    obtain ⟨h1, h2⟩ := List.pairwise_cons.1 hp
    rcases List.mem_cons.1 hx with hx' | hx' <;> rcases List.mem_cons.1 hy with hy' | hy'
    · rw [hx', hy']
    · rw [hx'] at he; exact absurd he (hR _ _ (h1 y hy'))
    · rw [hy'] at he; exact absurd he.symm (hR _ _ (h1 x hx'))
    · exact pair_index hR h2 hx' hy' he

theorem pair_ids {R : Pe → Pe → Prop} (hR : ∀ x y, R x y → peBlk x ≠ none → peBlk y ≠ none → x.id ≠ y.id) : ∀ {l : List Pe}, l.Pairwise R → ∀ {x y : Pe}, x ∈ l → y ∈ l → peBlk x ≠ none → peBlk y ≠ none → x.id = y.id → x = y
  | [], _, x, _, hx, _, _, _, _ => by cases hx
  | z :: r, hp, x, y, hx, hy, bx, by', he => by
    obtain ⟨h1, h2⟩ := List.pairwise_cons.1 hp
    rcases List.mem_cons.1 hx with hx' | hx' <;> rcases List.mem_cons.1 hy with hy' | hy'
    · rw [hx', hy']
    · rw [hx'] at he bx; exact absurd he (hR _ _ (h1 y hy') bx by')
    · rw [hy'] at he by'; exact absurd he.symm (hR _ _ (h1 x hx') by' bx)
    · exact pair_ids hR h2 hx' hy' bx by' he

theorem J.ids (Jh : J cx ops ι₀ D₀ σ₀ w₀ done pe a σ S old ι D ac w) {x y : Pe} (hx : x ∈ pe) (hy : y ∈ pe) (bx : peBlk x ≠ none) (by' : peBlk y ≠ none) (h : x.id = y.id) : x = y :=
  pair_ids (fun _ _ h => h.2) Jh.pone hx hy bx by' h

theorem J.index (Jh : J cx ops ι₀ D₀ σ₀ w₀ done pe a σ S old ι D ac w) {x y : Pe} (hx : x ∈ pe) (hy : y ∈ pe) (h : x.i = y.i) : x = y :=
  pair_index (fun _ _ h => h.1) Jh.pone hx hy h

/-- What goes on when one that wasn't done here is done. -/
theorem J.put (hok : regionOk ops.toList (Ns ops) = true) (Jh : J cx ops ι₀ D₀ σ₀ w₀ done pe a σ S old ι D ac w) (hp : p ∈ Ns ops) (hdone : bit done p.i = true) (hanc : ∀ k, bit p.anc k = true → S k)
    {old' : Nat → Option Blk} {v : Value} (hd : Aims a p v) (hx : Ext ι D ι' D') (hv : vok ι' D' v)
    (rel : Rel ι' D' { σ with h := lay (pres (fun i => S i ∨ i = p.i) old') pe σ.h } w') (go : Go1 ι₀ D₀ σ₀ w₀ ι' D' { σ with h := lay (pres (fun i => S i ∨ i = p.i) old') pe σ.h } w')
    (hold : ∀ i, i ≠ p.i → old' i = old i) (pold : ∀ x ∈ pe, old' x.i ≠ none → ∃ cs f s cs0, x.l = .wr x.id cs f s ∧ old' x.i = some (.cells cs0 f s))
    (hnew : ∀ x ∈ pe, ∀ k cs mk, x.l = .new k cs mk → x.i ≠ p.i → D' x.id → D x.id) :
    J cx ops ι₀ D₀ σ₀ w₀ done pe a σ (fun i => S i ∨ i = p.i) old' ι' D' (ac.put p.o.dst (ren ι' v)) w' where
  sub i h := h.elim (Jh.sub i) (fun h => by rw [h]; exact hdone)
  clS q hq h k hk := by
    rcases h with h | h
    · exact .inl (Jh.clS q hq h k hk)
    · have := number_uniq _ _ _ q p hq hp h
      subst this
      exact .inl (hanc k hk)
  clD := Jh.clD
  fullM := Jh.fullM
  rel := rel
  go := go
  dfr := by
    rw [show (ac.put p.o.dst (ren ι' v)).defers = ac.defers by cases p.o.dst <;> rfl, Jh.dfr]
    exact List.map_congr_left fun d h => ((renD_ext hx (Jh.dok d h)).1).symm
  dok d h := (renD_ext hx (Jh.dok d h)).2
  full := Jh.full
  size := by rw [← Jh.size]; cases p.o.dst <;> simp [Act.put]
  most := Jh.most
  vals t u hu hw := by
    cases hdst : p.o.dst with
    | none =>
      obtain ⟨h1, h2⟩ := Jh.vals t u hu fun q hq hqt hqd => (hw q hq hqt hqd).elim id fun h => by
        have := number_uniq _ _ _ q p hq hp h
        subst this
        rw [hdst] at hqt; cases hqt
      exact ⟨by rw [hx.ren h2]; exact h1, hx.vok h2⟩
    | some d =>
      by_cases hdt : d = t
      · subst hdt
        obtain ⟨h1, h2⟩ := hd d hdst
        rw [h1] at hu
        cases hu
        refine ⟨?_, hv⟩
        show (ac.tmps.setIfInBounds d _)[d]? = _
        rw [Array.getElem?_setIfInBounds_self_of_lt (by rw [Jh.size]; exact h2)]
      · obtain ⟨h1, h2⟩ := Jh.vals t u hu fun q hq hqt hqd => (hw q hq hqt hqd).elim id fun h => by
          have := number_uniq _ _ _ q p hq hp h
          subst this
          rw [hdst] at hqt; cases hqt
          exact absurd rfl hdt
        refine ⟨?_, hx.vok h2⟩
        show (ac.tmps.setIfInBounds d _)[t]? = _
        rw [Array.getElem?_setIfInBounds_ne hdt, hx.ren h2]
        exact h1
  pin := Jh.pin
  pone := Jh.pone
  pid := Jh.pid
  pold := pold
  pnew := Jh.pnew
  pwr := Jh.pwr
  pwf := Jh.pwf
  und q hq hqd hqS := by
    have hqS1 : ¬ S q.i := fun h => hqS (.inl h)
    have hne : q.i ≠ p.i := fun h => hqS (.inr h)
    have hnq : ¬ bit p.anc q.i = true := fun h => hqS1 (hanc _ h)
    have cl : ∀ {T}, Claim ι D ops a ac.tmps q T → Claim ι' D' ops a (ac.put p.o.dst (ren ι' v)).tmps q T := fun hc => claim_put hok hx hp hq hne hnq hc
    cases Jh.und q hq hqd hqS1 with
    | skip T hc hw hn hd => exact .skip T (cl hc) hw hn hd
    | val T u hc hw x hx hi hxo hxT hxl hl hd => exact .val T u (cl hc) hw x hx hi hxo hxT hxl hl hd
    | new T x k cs mk hc hw hx hi hxl hl hD hd => exact .new T x k cs mk (cl hc) hw hx hi hxl hl (fun h => hD (hnew x hx k cs mk hxl (by rw [hi]; exact hne) h)) hd
    | wr T x t ad xo off n xv cs0 f s hc hw hx hi hxl ho ha hv hs hn hfit hc1 hold' hno hd =>
      exact .wr T x t ad xo off n xv cs0 f s (cl hc) hw hx hi hxl ho ha hv hs hn hfit hc1 (by rw [hold _ hne]; exact hold') hno hd

theorem put_undef {K : Act → World → Prop} (ι' : Emb) {dst : Option Tmp} (h : K (ac.put dst (ren ι' undef)) w') : K (ac.put dst undef) w' := by rwa [ren_undef] at h

theorem pres_other {S : Nat → Prop} {old old' : Nat → Option Blk} {i : Nat} (ho : ∀ j, j ≠ i → old' j = old j) {x : Pe} (hx : x.i ≠ i) : pres (fun j => S j ∨ j = i) old' x = pres S old x := by
  unfold pres
  by_cases h : S x.i
  · rw [if_pos (.inl h), if_pos h]
  · rw [if_neg (fun hh => hh.elim h hx), if_neg h, ho _ hx]

theorem pres_done {S : Nat → Prop} {old : Nat → Option Blk} {i : Nat} {x : Pe} (hx : x.i = i) : pres (fun j => S j ∨ j = i) old x = peBlk x := by
  unfold pres
  rw [if_pos (.inr hx)]

theorem pres_not {S : Nat → Prop} {old : Nat → Option Blk} {x : Pe} (hx : ¬ S x.i) : pres S old x = old x.i := by
  unfold pres
  rw [if_neg hx]

/-- A store, as the machine does it. -/
theorem store_run (ok : CxOk cx) {t : TypeId} {n : Nat} (hs : sizeOf? cx t = some n) {x : Value} (hn : x.cells.size = n) (h5 : areCells x.cells.toList = true) {b off : Nat} {c : Array Value} {ty : TypeId}
    (hc : w.heap[(ι b).blk]? = some (.cells c ty (0, 0))) (hfit : (ι b).shift + off + n ≤ c.size) :
    (Instr.storeAt t (ren ι (.pointer (some ⟨b, off, none⟩))) (ren ι x)).run cx.P w =
      .ok () (w.setRow (ι b).blk (c.toList.take ((ι b).shift + off) ++ x.cells.toList.map (ren ι) ++ c.toList.drop ((ι b).shift + off + (x.cells.toList.map (ren ι)).length)).toArray) := by
  have hlen : (x.cells.toList.map (ren ι)).length = n := by simp [hn]
  have hst := run_storeCells_at cx.P (ι b).blk ((ι b).shift + off) ty (x.cells.toList.map (ren ι)) 0 c w hc (by omega) (fun v hv => by
    obtain ⟨u, hu, rfl⟩ := List.mem_map.1 hv
    exact areCells_one h5 u hu)
  have hsz : (ren ι x).cells.size = n := by rw [← Array.length_toList, ren_cells]; exact hlen
  simp only [Instr.storeAt, Instr.sureAddr, ren, renA, Sem.run_bind, Sem.run_pure, Result.andThen_ok, storeVar, run_sizeOf' ok hs, hsz]
  rw [if_neg (by simp), ren_cells]
  simp only [hst, Nat.add_zero]

/-- **ONE THAT WAITS IS DONE.** -/
theorem real_undone (ok : CxOk cx) (hok : regionOk ops.toList (Ns ops) = true) (Jh : J cx ops ι₀ D₀ σ₀ w₀ done pe a σ S old ι D ac w) {rd : Option Nat} (hp : p ∈ Ns ops) (hdone : bit done p.i = true) (hS : ¬ S p.i) (hanc : ∀ k, bit p.anc k = true → S k)
    {K : Act → World → Prop} {Q : Exit → Act → World → Prop} (hK : ∀ old' ι' D' ac' w', J cx ops ι₀ D₀ σ₀ w₀ done pe a σ (fun i => S i ∨ i = p.i) old' ι' D' ac' w' → K ac' w') :
    wpOpIn (fenceOf ι₀ rd) 0 cx.P ops Q p.i K ac w := by
  obtain ⟨j, hj, hji⟩ := number_mem _ _ _ p hp
  have hop : ops[p.i]? = some p.o := by
    rw [hji, Nat.zero_add]
    simpa using hj
  have hsub : Rel ι D σ w := by
    refine Jh.rel.sub (h' := σ.h) Jh.fullM fun B b hB => ?_
    rw [lay_out pe Jh.fullM (Jh.own S) fun x hx hm he => ?_]
    · exact hB
    · rw [← he, (Jh.pid x hx (Jh.blk S hx hm)).2] at hB
      cases hB
  unfold wpOpIn
  rw [hop]
  simp only
  cases Jh.und p hp hdone hS with
  | skip T hc hw hn hd =>
    rw [wanted_there hok Jh hc hanc hw, if_neg Bool.false_ne_true]
    refine ⟨fun _ _ => fenceOf_fn _ _ _, put_undef ι (hK old ι D _ w ?_)⟩
    have he : lay (pres (fun i => S i ∨ i = p.i) old) pe σ.h = lay (pres S old) pe σ.h := lay_congr pe _ fun x hx => pres_other (fun _ _ => rfl) (hn x hx)
    exact Jh.put hok hp hdone hanc hd (Ext.refl _ _) vok_undef (by rw [he]; exact Jh.rel) (by rw [he]; exact Jh.go) (fun _ _ => rfl) Jh.pold (fun _ _ _ _ _ _ _ h => h)
  | val T v hc hw x₀ hx₀ hi₀ _ _ hxl₀ hl hd =>
    rw [wanted_there hok Jh hc hanc hw, if_pos rfl]
    obtain ⟨h1, h2⟩ := light_val ok hsub (ops_there hok Jh hc hanc) hl
    have hdf := light_defer (cx := cx) (a := ⟨T, 0, []⟩) (σ := σ) (o := p.o) (by rw [hl]; simp)
    refine op_value hdf h1 (hK old ι D _ w ?_)
    have hx : ∀ x ∈ pe, x.i = p.i → x.l = .val v := fun x hx hi => by rw [Jh.index hx hx₀ (hi.trans hi₀.symm)]; exact hxl₀
    have hov : ∀ x ∈ pe, x.i = p.i → old x.i = none := by
      intro x hxm hxi
      cases ho : old x.i with
      | none => rfl
      | some b =>
        obtain ⟨cs, f, s, cs0, h3, _⟩ := Jh.pold x hxm (by rw [ho]; simp)
        rw [hx x hxm hxi] at h3
        cases h3
    have he : lay (pres (fun i => S i ∨ i = p.i) old) pe σ.h = lay (pres S old) pe σ.h := lay_congr pe _ fun x hxm => by
      by_cases hxi : x.i = p.i
      · rw [pres_done hxi, pres_not (by rw [hxi]; exact hS), hov x hxm hxi]
        simp [peBlk, hx x hxm hxi]
      · exact pres_other (fun _ _ => rfl) hxi
    exact Jh.put hok hp hdone hanc hd (Ext.refl _ _) h2 (by rw [he]; exact Jh.rel) (by rw [he]; exact Jh.go) (fun _ _ => rfl) Jh.pold (fun _ _ _ _ _ _ _ h => h)
  | new T x k cs mk hc hw hx hi hxl hl hD hd =>
    rw [wanted_there hok Jh hc hanc hw, if_pos rfl]
    obtain ⟨e, v', w', h1, h2, h3⟩ := light_new (ι := ι) (D := D) (w := w) ok (ops_there hok Jh hc hanc) hl
    have hdf := light_defer (cx := cx) (a := ⟨T, 0, []⟩) (σ := σ) (o := p.o) (by rw [hl]; simp)
    obtain ⟨m1, m2⟩ := h3 x.id (upd ι x.id e) (addD D x.id) (upd_same _ _)
    refine op_value hdf h1 ?_
    rw [← m1]
    refine hK old (upd ι x.id e) (addD D x.id) _ w' ?_
    have hb : peBlk x = some (blkOf k cs x.id) := by simp [peBlk, hxl]
    have hbn : peBlk x ≠ none := by rw [hb]; simp
    obtain ⟨k1, k2, k3, k4, k5, k6, k7, k8⟩ := h2.block hD
    obtain ⟨p1, p2, p3⟩ := Jh.pnew x hx k cs mk hxl
    have hxn := (Jh.pid x hx hbn).1
    have hown' := Jh.own (fun i => S i ∨ i = p.i)
    have hcase : ∀ B b, (lay (pres (fun i => S i ∨ i = p.i) old) pe σ.h).get B = some b → (B = x.id ∧ b = blkOf k cs x.id) ∨ (B ≠ x.id ∧ (lay (pres S old) pe σ.h).get B = some b) := by
      intro B b hB
      rcases lay_cases Jh.fullM hown' hB with ⟨y, hy, hyB, hyb⟩ | ⟨hn, hB⟩
      · by_cases hyi : y.i = p.i
        · have := Jh.index hy hx (hyi.trans hi.symm)
          subst this
          rw [pres_done hyi, hb] at hyb
          cases hyb
          exact .inl ⟨hyB.symm, rfl⟩
        · rw [pres_other (fun _ _ => rfl) hyi] at hyb
          refine .inr ⟨fun he => ?_, by rw [← hyB]; exact lay_in pe Jh.fullM (Jh.own S) hy hyb⟩
          have := Jh.ids hy hx (Jh.blk S hy (by rw [hyb]; simp)) hbn (hyB.trans he)
          subst this
          exact hyi hi
      · have hne : B ≠ x.id := fun he => hn x hx (by rw [pres_done hi]; exact hbn) he.symm
        refine .inr ⟨hne, ?_⟩
        rw [lay_out pe Jh.fullM (Jh.own S) fun y hy hm he => ?_]
        · exact hB
        · rw [← he, (Jh.pid y hy (Jh.blk S hy hm)).2] at hB
          cases hB
    have hxx := upd_ext (ι := ι) (e := e) hD
    have R1 := Jh.rel.grow hxx (w' := w') (fun B hB => by
      rcases hB with hB | hB
      · exact Jh.rel.next B hB
      · rw [hB]; exact hxn) (fun B b hB hl => k4 _ (BR_lt (Jh.rel.live B b hB).2 hl))
    have R2 := R1.settle (id := x.id) (b := blkOf k cs x.id) ⟨.inr rfl, fun hl B b' hB hl' he => by
        rw [upd_same, (k2 hl).1, upd_other (fun e => by rw [e] at hB; exact hD (Jh.rel.live _ _ hB).1)] at he
        have := BR_lt (Jh.rel.live B b' hB).2 hl'
        omega, fun c f s hcs => by
        obtain ⟨g1, g2⟩ := k3 c f s hcs
        subst g1
        exact ⟨hxn, by simp [family, p2, famL], fun _ => by rw [upd_same]; exact g2⟩⟩ (by rw [upd_same]; exact k1)
    have R3 := R2.sub (lay_full (pres (fun i => S i ∨ i = p.i) old) pe Jh.fullM) (fun B b hB => by
      have hlt : x.id + 1 < 2 ^ deep := hown'.lt x hx (by rw [pres_done hi]; exact hbn)
      show ((lay (pres S old) pe σ.h).set x.id (some (blkOf k cs x.id))).get B = some b
      rw [get_set (lay_full _ pe Jh.fullM) _ _ _ hlt]
      rcases hcase B b hB with ⟨h1, h2⟩ | ⟨h1, h2⟩
      · rw [if_pos h1, h2]
      · rw [if_neg h1]; exact h2)
    exact Jh.put hok hp hdone hanc hd hxx (m2 (.inr rfl)) R3 (Jh.go.come h2 hD p1 hcase) (fun _ _ => rfl) Jh.pold (fun y hy k' cs' mk' hyl hyi hDy => hDy.elim id fun h => by
      have := Jh.ids hy hx (by simp [peBlk, hyl]) hbn h
      subst this
      exact absurd hi hyi)
  | wr T x t ad xo off n xv cs0 f s hc hw hx hi hxl ho ha hv hs hn hfit hc1 hold hno hd =>
    rw [wanted_there hok Jh hc hanc hw, if_pos rfl]
    have hOps := ops_there hok Jh hc hanc
    have hdf : ∀ c', p.o.op ≠ .defer c' := fun c' h => by rw [ho] at h; cases h
    rw [ho] at hOps
    obtain ⟨e1, _⟩ := hOps.at (by simp [Op.operands]) ha
    obtain ⟨e3, e4⟩ := hOps.at (by simp [Op.operands]) hv
    have hb : peBlk x = some (.cells (overwrite cs0 off xv.cells.toList) f s) := by simp [peBlk, hxl]
    have hbn : peBlk x ≠ none := by rw [hb]; simp
    have hpr : pres S old x = some (.cells cs0 f s) := by rw [pres_not (by rw [hi]; exact hS), hi]; exact hold
    have hget := lay_in pe Jh.fullM (Jh.own S) hx hpr
    obtain ⟨_, c, ty, hcell, hcr⟩ := Jh.rel.live _ _ hget
    have hcr' := hcr
    obtain ⟨c1, c2, _⟩ := hcr'
    have hlen : xv.cells.toList.length = n := by simpa using hn
    obtain ⟨_, q2, q3⟩ := Jh.pwr x hx _ _ _ _ hxl
    have key := write_gen (σ := { σ with h := lay (pres S old) pe σ.h }) Jh.rel hget (xs := xv.cells.toList) (off := off) (vok_cells e4) (by omega) hcell hcr (h1 := lay (pres S old) pe σ.h) (lay_full _ pe Jh.fullM) (fun _ _ h _ => h)
      (fun B cs' s' hB hne => by
        rw [hlen]
        rcases lay_cases Jh.fullM (Jh.own S) hB with ⟨y, hy, hyB, hyb⟩ | ⟨_, hB⟩
        · exfalso
          have hyi : x.i ≠ y.i := fun h => hne (by rw [← hyB, Jh.index hx hy h])
          by_cases hSy : S y.i
          · have : peBlk y = some (.cells cs' f s') := by rw [← hyb]; unfold pres; rw [if_pos hSy]
            unfold peBlk at this
            split at this
            · cases this
            · rename_i k cs mk hyl
              cases k <;> simp only [blkOf, Option.some.injEq, reduceCtorEq] at this
              cases this
              exact q3 y hy _ _ _ hyl rfl
            · rename_i hyl
              cases this
              exact q2 y hy hyi _ _ _ hyl
          · rw [pres_not hSy] at hyb
            obtain ⟨cs, f', s'', cs0', h1, h2⟩ := Jh.pold y hy (by rw [hyb]; simp)
            rw [hyb] at h2
            cases h2
            exact q2 y hy hyi _ _ _ h1
        · exact hno B cs' s' hB)
    refine op_skip hdf (w' := w.setRow (ι x.id).blk (c.toList.take ((ι x.id).shift + off) ++ xv.cells.toList.map (ren ι) ++ c.toList.drop ((ι x.id).shift + off + (xv.cells.toList.map (ren ι)).length)).toArray) ?_ ?_
    · simp only [execOp, ho]
      rw [e1, e3]
      exact run_u (store_run ok hs hn hc1 hcell (by omega))
    · refine put_undef ι (hK old ι D _ _ ?_)
      have hown' := Jh.own (fun i => S i ∨ i = p.i)
      have hcase : ∀ B b, (lay (pres (fun i => S i ∨ i = p.i) old) pe σ.h).get B = some b → ((lay (pres S old) pe σ.h).set x.id (some (.cells (overwrite cs0 off xv.cells.toList) f s))).get B = some b := by
        intro B b hB
        rw [get_set (lay_full _ pe Jh.fullM) _ _ _ (hown'.lt x hx (by rw [pres_done hi]; exact hbn))]
        rcases lay_cases Jh.fullM hown' hB with ⟨y, hy, hyB, hyb⟩ | ⟨hn, hB⟩
        · by_cases hyi : y.i = p.i
          · have := Jh.index hy hx (hyi.trans hi.symm)
            subst this
            rw [pres_done hyi, hb] at hyb
            rw [if_pos hyB.symm, hyb]
          · rw [pres_other (fun _ _ => rfl) hyi] at hyb
            rw [if_neg, ← hyB]
            · exact lay_in pe Jh.fullM (Jh.own S) hy hyb
            · intro he
              have := Jh.ids hy hx (Jh.blk S hy (by rw [hyb]; simp)) hbn (hyB.trans he)
              subst this
              exact hyi hi
        · have hne : B ≠ x.id := fun he => hn x hx (by rw [pres_done hi]; exact hbn) he.symm
          rw [if_neg hne, lay_out pe Jh.fullM (Jh.own S) fun y hy hm he => ?_]
          · exact hB
          · rw [← he, (Jh.pid y hy (Jh.blk S hy hm)).2] at hB
            cases hB
      have R3 := key.1.sub (lay_full (pres (fun i => S i ∨ i = p.i) old) pe Jh.fullM) hcase
      have G3 := (Jh.go.trans key.2).less hcase
      exact Jh.put hok hp hdone hanc hd (Ext.refl _ _) vok_undef R3 G3 (fun _ _ => rfl) Jh.pold (fun _ _ _ _ _ _ _ h => h)

end
end
end Go.VI
