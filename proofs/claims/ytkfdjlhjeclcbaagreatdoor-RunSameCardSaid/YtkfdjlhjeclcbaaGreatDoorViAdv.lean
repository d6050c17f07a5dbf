/-
  VI: an open order, gone on with here.
-/
import Derived.Test.YtkfdjlhjeclcbaaGreatDoorViDrawn
namespace Go.VI
open Go
noncomputable section

section
variable {cx : Cx} {rec : Rec} {ι ι' ι₀ : Emb} {D D' D₀ : Nat → Prop} {σ σ' σ₀ : Mem} {w w' w₀ : World} {ops : Array Oper} {done : Nat} {pe : List Pe} {a a' : Ac} {S : Nat → Prop} {old : Nat → Option Blk} {ac : Act} {p : No} {T : Tr Value}

theorem light_next (o : Oper) (T : Tr Value) (σ : Mem) (n : Nat) : light cx o T { σ with next := n } = light cx o T σ := by
  unfold light
  cases o.op <;> rfl

theorem Go1.nextUp (G : Go1 ι₀ D₀ σ₀ w₀ ι D σ w) : Go1 ι₀ D₀ σ₀ w₀ ι D { σ with next := σ.next + 1 } w :=
  ⟨G.ext, G.fresh, Nat.le_succ_of_le G.next, G.size, G.frame, G.range, G.live, G.fams, G.tape, G.os, G.output⟩

theorem lt_deepT {n d : Nat} (hm : n ≤ mostT) (h : d < n) : d + 1 < 2 ^ deepT := by
  rw [deepT_pow]
  unfold mostT at hm
  omega

theorem put_eq {dst : Option Tmp} {v : Value} (h : a.put dst v = .ok a') : a'.nt = a.nt ∧ a'.ds = a.ds ∧ ((dst = none ∧ a'.T = a.T) ∨ ∃ d, dst = some d ∧ d < a.nt ∧ a'.T = a.T.set d (some v)) := by
  cases dst with
  | none => simp only [Ac.put] at h; cases h; exact ⟨rfl, rfl, .inl ⟨rfl, rfl⟩⟩
  | some d =>
    simp only [Ac.put] at h
    cases hb : Nat.ble (d + 1) a.nt with
    | false => rw [hb] at h; cases h
    | true => rw [hb] at h; simp only [putB] at h; cases h; exact ⟨rfl, rfl, .inr ⟨d, rfl, ble_le hb, rfl⟩⟩

theorem J.get (Jh : J cx ops ι₀ D₀ σ₀ w₀ done pe a σ S old ι D ac w) {B : Nat} {b : Blk} (h : σ.h.get B = some b) : (lay (pres S old) pe σ.h).get B = some b := by
  rw [lay_out pe Jh.fullM (Jh.own S) fun x hx hm he => ?_]
  · exact h
  · rw [← he, (Jh.pid x hx (Jh.blk S hx hm)).2] at h
    cases h

/-- What an operation that is taken here looks at. -/
theorem J.claim (hok : regionOk ops.toList (Ns ops) = true) (Jh : J cx ops ι₀ D₀ σ₀ w₀ done pe a σ S old ι D ac w) (hp : p ∈ Ns ops) (hnd : bit done p.i = false) (hanc : ∀ k, bit p.anc k = true → bit done k = true)
    {v : Value} (hput : a.put p.o.dst v = .ok a') : Claim ι D ops a' ac.tmps p a.T := by
  obtain ⟨_, _, hT⟩ := put_eq hput
  intro t ht
  refine ⟨fun q hq hqt hqa => ?_, fun hn u hu => Jh.vals t u hu fun q hq hqt hqd => ?_⟩
  · rcases hT with ⟨_, hT⟩ | ⟨d, hd, hlt, hT⟩
    · rw [hT]
    · rw [hT, get_set Jh.full _ _ _ (lt_deepT Jh.most hlt), if_neg]
      intro he
      subst he
      have := writer_one hok hq hp hqt hd
      subst this
      rw [hanc _ hqa] at hnd
      cases hnd
  · rcases regionOk_ok (and_true hok).2 p hp q hq t hqt ht with h | h | h
    · rw [← h, hnd] at hqd; cases hqd
    · rw [hn q hq hqt] at h; cases h
    · rw [Jh.clD q hq hqd _ h] at hnd; cases hnd

/-- **ONE IS TAKEN HERE, AND WAITS THERE.** -/
theorem J.take (hok : regionOk ops.toList (Ns ops) = true) (Jh : J cx ops ι₀ D₀ σ₀ w₀ done pe a σ S old ι D ac w) (hp : p ∈ Ns ops) (hnd : bit done p.i = false) (hanc : ∀ k, bit p.anc k = true → bit done k = true)
    {v : Value} (hput : a.put p.o.dst v = .ok a') {xs : List Pe} (hxs : ∀ x ∈ xs, x.i = p.i) (hx1 : xs.length ≤ 1) {ho : Option Blk} (hho : ∀ x ∈ xs, ho ≠ none → ∃ cs f s cs0, x.l = .wr x.id cs f s ∧ ho = some (.cells cs0 f s))
    (fullM : Full deep σ'.h) (rel : Rel ι D { σ' with h := lay (pres S fun i => if i = p.i then ho else old i) (xs ++ pe) σ'.h } w) (go : Go1 ι₀ D₀ σ₀ w₀ ι D { σ' with h := lay (pres S fun i => if i = p.i then ho else old i) (xs ++ pe) σ'.h } w)
    (pid : ∀ x ∈ xs ++ pe, peBlk x ≠ none → x.id < σ'.next ∧ σ'.h.get x.id = none) (pids : ∀ x ∈ xs, ∀ y ∈ pe, peBlk x ≠ none → peBlk y ≠ none → x.id ≠ y.id)
    (pnew : ∀ x ∈ xs ++ pe, ∀ k cs mk, x.l = .new k cs mk → σ₀.next ≤ x.id ∧ σ'.fams.get x.id = none ∧ ∀ B cs s, σ'.h.get B ≠ some (.cells cs x.id s))
    (pwr : ∀ x ∈ xs ++ pe, ∀ b cs f s, x.l = .wr b cs f s → b = x.id ∧ (∀ y ∈ xs ++ pe, x.i ≠ y.i → ∀ b' cs' s', y.l ≠ .wr b' cs' f s') ∧ (∀ y ∈ xs ++ pe, ∀ k cs mk, y.l = .new k cs mk → f ≠ y.id))
    (pwf : ∀ x ∈ xs ++ pe, ∀ b cs f s, x.l = .wr b cs f s → f < σ'.next)
    (hlight : ∀ x ∈ pe, ∀ v, x.l = .val v → light cx x.o x.T σ = some (.ok (.val v)) → light cx x.o x.T σ' = some (.ok (.val v)))
    (hlightn : ∀ o T k cs mk, light cx o T σ = some (.ok (.new k cs mk)) → light cx o T σ' = some (.ok (.new k cs mk)))
    (hkeep : ∀ B b, σ'.h.get B = some b → σ.h.get B = some b)
    (hund : Claim ι D ops a' ac.tmps p a.T → Aims a' p v → Und cx ι D ops (xs ++ pe) a' σ' S (fun i => if i = p.i then ho else old i) ac.tmps p) :
    J cx ops ι₀ D₀ σ₀ w₀ (done ||| 2 ^ p.i) (xs ++ pe) a' σ' S (fun i => if i = p.i then ho else old i) ι D ac w := by
  obtain ⟨hnt, hds, hT⟩ := put_eq hput
  have hbit : ∀ k, bit (done ||| 2 ^ p.i) k = true ↔ bit done k = true ∨ k = p.i := by
    intro k
    rw [bit_or, bit_two]
    simp only [Bool.or_eq_true, decide_eq_true_eq]
    exact ⟨fun h => h.imp id Eq.symm, fun h => h.imp id Eq.symm⟩
  have hSp : ¬ S p.i := fun h => by rw [Jh.sub _ h] at hnd; cases hnd
  have hpei : ∀ x ∈ pe, x.i ≠ p.i := fun x hx he => by rw [← he, Jh.pin x hx] at hnd; cases hnd
  have hgetT : ∀ {t}, p.o.dst ≠ some t → a'.T.get t = a.T.get t := by
    intro t hne
    rcases hT with ⟨_, hT⟩ | ⟨d, hd, hlt, hT⟩
    · rw [hT]
    · rw [hT, get_set Jh.full _ _ _ (lt_deepT Jh.most hlt), if_neg]
      intro he
      rw [he] at hne
      exact hne hd
  have haim : Aims a' p v := by
    intro d hd
    rcases hT with ⟨h, _⟩ | ⟨d', hd', hlt, hT⟩
    · rw [h] at hd; cases hd
    · rw [hd'] at hd
      cases hd
      rw [hT, get_set Jh.full _ _ _ (lt_deepT Jh.most hlt), if_pos rfl, hnt]
      exact ⟨rfl, hlt⟩
  have hcl := Jh.claim hok hp hnd hanc hput
  refine ⟨fun i h => (hbit i).2 (.inl (Jh.sub i h)), Jh.clS, fun q hq hqd k hk => ?_, fullM, rel, go, by rw [hds]; exact Jh.dfr, by rw [hds]; exact Jh.dok, ?_, by rw [hnt]; exact Jh.size, by rw [hnt]; exact Jh.most, fun t u hu hw => ?_, fun x hx => ?_, ?_, pid, fun x hx hne => ?_, pnew, pwr, pwf, fun q hq hqd hqS => ?_⟩
  · rcases (hbit _).1 hqd with h | h
    · exact (hbit _).2 (.inl (Jh.clD q hq h k hk))
    · have := number_uniq _ _ _ q p hq hp h
      subst this
      exact (hbit _).2 (.inl (hanc k hk))
  · rcases hT with ⟨_, hT⟩ | ⟨d, _, _, hT⟩
    · rw [hT]; exact Jh.full
    · rw [hT]; exact full_set Jh.full _ _
  · by_cases hdt : p.o.dst = some t
    · exact absurd (hw p hp hdt ((hbit _).2 (.inr rfl))) hSp
    · rw [hgetT hdt] at hu
      exact Jh.vals t u hu fun q hq hqt hqd => hw q hq hqt ((hbit _).2 (.inl hqd))
  · rcases List.mem_append.1 hx with hx | hx
    · exact (hbit _).2 (.inr (hxs x hx))
    · exact (hbit _).2 (.inl (Jh.pin x hx))
  · refine List.pairwise_append.2 ⟨?_, Jh.pone, fun x hx y hy => ⟨fun he => hpei y hy (by rw [← he]; exact hxs x hx), pids x hx y hy⟩⟩
    match xs, hx1 with
    | [], _ => exact List.Pairwise.nil
    | [x], _ => exact List.pairwise_singleton _ _
    | _ :: _ :: _, h => simp at h
  · rcases List.mem_append.1 hx with hx | hx
    · simp only [hxs x hx, if_true] at hne ⊢
      exact hho x hx hne
    · simp only [hpei x hx, if_false] at hne ⊢
      exact Jh.pold x hx hne
  · rcases (hbit _).1 hqd with h | h
    · have hqp : q.i ≠ p.i := fun he => by rw [← he, h] at hnd; cases hnd
      have hmem : ∀ x, x ∈ pe → x ∈ xs ++ pe := fun x hx => List.mem_append.2 (.inr hx)
      have hin : ∀ x ∈ xs ++ pe, x.i = q.i → x ∈ pe := fun x hx he => (List.mem_append.1 hx).elim (fun h => absurd ((hxs x h).symm.trans he).symm hqp) id
      have hdst : ∀ d, q.o.dst = some d → p.o.dst ≠ some d := fun d h1 h2 => hqp (by rw [writer_one hok hq hp h1 h2])
      have cl : ∀ {T}, Claim ι D ops a ac.tmps q T → Claim ι D ops a' ac.tmps q T := by
        intro T hc t ht
        obtain ⟨c1, c2⟩ := hc t ht
        refine ⟨fun r hr hrt hra => ?_, c2⟩
        rw [c1 r hr hrt hra, hgetT]
        intro he
        have := writer_one hok hr hp hrt he
        subst this
        rw [Jh.clD q hq h _ hra] at hnd
        cases hnd
      have am : ∀ {u}, Aims a q u → Aims a' q u := by
        intro u ha d hd
        obtain ⟨h1, h2⟩ := ha d hd
        rw [hgetT (hdst d hd), hnt]
        exact ⟨h1, h2⟩
      cases Jh.und q hq h hqS with
      | skip T hc hw hn hd => exact .skip T (cl hc) hw (fun x hx he => hn x (hin x hx he) he) (am hd)
      | val T u hc hw x hx hi hxo hxT hxl hl hd =>
        have hl' := hlight x hx u hxl (by rw [hxo, hxT]; exact hl)
        rw [hxo, hxT] at hl'
        exact .val T u (cl hc) hw x (hmem x hx) hi hxo hxT hxl hl' (am hd)
      | new T x k cs mk hc hw hx hi hxl hl hD hd => exact .new T x k cs mk (cl hc) hw (hmem x hx) hi hxl (hlightn _ _ _ _ _ hl) hD (am hd)
      | wr T x t ad xo off n xv cs0 f s hc hw hx hi hxl ho ha hv hs hn hfit hc1 hold' hno hd =>
        exact .wr T x t ad xo off n xv cs0 f s (cl hc) hw (hmem x hx) hi hxl ho ha hv hs hn hfit hc1 (by simp only [hqp, if_false]; exact hold') (fun B cs' s' hB => hno B cs' s' (hkeep B _ hB)) (am hd)
    · have := number_uniq _ _ _ q p hq hp h
      subst this
      exact hund hcl haim

theorem lay_wait {i : Nat} (hS : ¬ S i) : ∀ {xs : List Pe}, (∀ x ∈ xs, x.i = i) → (∀ x ∈ pe, x.i ≠ i) → ∀ h, lay (pres S fun j => if j = i then none else old j) (xs ++ pe) h = lay (pres S old) pe h
  | [], _, hpe, h => lay_congr pe h fun x hx => by
    unfold pres
    by_cases hs : S x.i
    · rw [if_pos hs, if_pos hs]
    · rw [if_neg hs, if_neg hs]
      exact if_neg (hpe x hx)
  | x :: r, hxs, hpe, h => by
    have hx : pres S (fun j => if j = i then none else old j) x = none := by
      rw [pres_not (by rw [hxs x (by simp)]; exact hS), hxs x (by simp), if_pos rfl]
    simp only [List.cons_append, lay, hx]
    exact lay_wait hS (fun y hy => hxs y (List.mem_cons_of_mem _ hy)) hpe h

theorem J.notYet (Jh : J cx ops ι₀ D₀ σ₀ w₀ done pe a σ S old ι D ac w) (hnd : bit done p.i = false) : ¬ S p.i ∧ ∀ x ∈ pe, x.i ≠ p.i :=
  ⟨fun h => (by rw [Jh.sub _ h] at hnd; cases hnd), fun x hx he => (by rw [← he, Jh.pin x hx] at hnd; cases hnd)⟩

/-- One that isn't asked for. -/
theorem J.takeSkip (hok : regionOk ops.toList (Ns ops) = true) (Jh : J cx ops ι₀ D₀ σ₀ w₀ done pe a σ S old ι D ac w) (hp : p ∈ Ns ops) (hnd : bit done p.i = false) (hanc : ∀ k, bit p.anc k = true → bit done k = true)
    (hw : wantedA ops.toList p.o a.T = some false) (hput : a.put p.o.dst undef = .ok a') : ∃ old', J cx ops ι₀ D₀ σ₀ w₀ (done ||| 2 ^ p.i) pe a' σ S old' ι D ac w := by
  obtain ⟨hS, hpe⟩ := Jh.notYet hnd
  have he := lay_wait (pe := pe) (old := old) hS (xs := []) (by simp) hpe σ.h
  exact ⟨_, Jh.take hok hp hnd hanc hput (xs := []) (ho := none) (by simp) (by simp) (by simp) Jh.fullM (by rw [he]; exact Jh.rel) (by rw [he]; exact Jh.go) Jh.pid (by simp) Jh.pnew Jh.pwr Jh.pwf
    (fun _ _ _ _ h => h) (fun _ _ _ _ _ h => h) (fun _ _ h => h) (fun hc ha => .skip a.T hc hw hpe ha)⟩

/-- One that comes to a value. -/
theorem J.takeVal (hok : regionOk ops.toList (Ns ops) = true) (Jh : J cx ops ι₀ D₀ σ₀ w₀ done pe a σ S old ι D ac w) (hp : p ∈ Ns ops) (hnd : bit done p.i = false) (hanc : ∀ k, bit p.anc k = true → bit done k = true)
    (hw : wantedA ops.toList p.o a.T = some true) {v : Value} (hl : light cx p.o a.T σ = some (.ok (.val v))) (hput : a.put p.o.dst v = .ok a') :
    ∃ old', J cx ops ι₀ D₀ σ₀ w₀ (done ||| 2 ^ p.i) (⟨p.i, p.o, a.T, 0, .val v⟩ :: pe) a' σ S old' ι D ac w := by
  obtain ⟨hS, hpe⟩ := Jh.notYet hnd
  have he := lay_wait (pe := pe) (old := old) hS (xs := [⟨p.i, p.o, a.T, 0, .val v⟩]) (by simp) hpe σ.h
  have split : ∀ {P : Pe → Prop}, P ⟨p.i, p.o, a.T, 0, .val v⟩ → (∀ x ∈ pe, P x) → ∀ x ∈ [(⟨p.i, p.o, a.T, 0, .val v⟩ : Pe)] ++ pe, P x := by
    intro P h1 h2 x hx
    rcases List.mem_append.1 hx with hx | hx
    · simp only [List.mem_singleton] at hx; subst hx; exact h1
    · exact h2 x hx
  refine ⟨_, Jh.take hok hp hnd hanc hput (xs := [⟨p.i, p.o, a.T, 0, .val v⟩]) (ho := none) (by simp) (by simp) (by simp) Jh.fullM (by rw [he]; exact Jh.rel) (by rw [he]; exact Jh.go)
    (split (by simp [peBlk]) Jh.pid) (fun x hx y hy hn => ?_) (split (by simp) Jh.pnew) (split (by simp) fun x hx b cs f s hxl => ?_) (split (by simp) Jh.pwf)
    (fun _ _ _ _ h => h) (fun _ _ _ _ _ h => h) (fun _ _ h => h) (fun hc ha => .val a.T v hc hw ⟨p.i, p.o, a.T, 0, .val v⟩ (by simp) rfl rfl rfl rfl hl ha)⟩
  · simp only [List.mem_singleton] at hx; subst hx; simp [peBlk] at hn
  · obtain ⟨q1, q2, q3⟩ := Jh.pwr x hx b cs f s hxl
    exact ⟨q1, split (by simp) q2, split (by simp) q3⟩

/-- One that makes a block. -/
theorem J.takeNew (hok : regionOk ops.toList (Ns ops) = true) (Jh : J cx ops ι₀ D₀ σ₀ w₀ done pe a σ S old ι D ac w) (hp : p ∈ Ns ops) (hnd : bit done p.i = false) (hanc : ∀ k, bit p.anc k = true → bit done k = true)
    (hw : wantedA ops.toList p.o a.T = some true) {k : Kn} {cs : List Value} {mk : Nat → Value} (hl : light cx p.o a.T σ = some (.ok (.new k cs mk))) (hm : σ.next + 4 ≤ VI.most) (hput : a.put p.o.dst (mk σ.next) = .ok a') :
    ∃ old', J cx ops ι₀ D₀ σ₀ w₀ (done ||| 2 ^ p.i) (⟨p.i, p.o, a.T, σ.next, .new k cs mk⟩ :: pe) a' { σ with next := σ.next + 1 } S old' ι D ac w := by
  obtain ⟨hS, hpe⟩ := Jh.notYet hnd
  have he := lay_wait (pe := pe) (old := old) hS (xs := [⟨p.i, p.o, a.T, σ.next, .new k cs mk⟩]) (by simp) hpe σ.h
  have split : ∀ {P : Pe → Prop}, P ⟨p.i, p.o, a.T, σ.next, .new k cs mk⟩ → (∀ x ∈ pe, P x) → ∀ x ∈ [(⟨p.i, p.o, a.T, σ.next, .new k cs mk⟩ : Pe)] ++ pe, P x := by
    intro P h1 h2 x hx
    rcases List.mem_append.1 hx with hx | hx
    · simp only [List.mem_singleton] at hx; subst hx; exact h1
    · exact h2 x hx
  have hD : ¬ D σ.next := fun h => Nat.lt_irrefl _ (Jh.rel.next _ h)
  have hfree : σ.h.get σ.next = none := by
    cases hg : σ.h.get σ.next with
    | none => rfl
    | some b => exact absurd (Jh.rel.live _ b (Jh.get hg)).1 hD
  have hfam : ∀ B cs s, σ.h.get B ≠ some (.cells cs σ.next s) := fun B cs s h => Nat.lt_irrefl _ (Jh.rel.fam B cs _ s (Jh.get h)).1
  refine ⟨_, Jh.take (σ' := { σ with next := σ.next + 1 }) hok hp hnd hanc hput (xs := [⟨p.i, p.o, a.T, σ.next, .new k cs mk⟩]) (ho := none) (by simp) (by simp) (by simp) Jh.fullM
    (by simp only; rw [he]; exact Jh.rel.skip (by show σ.next + 1 ≤ _; omega)) (by simp only; rw [he]; exact Jh.go.nextUp)
    (split (fun _ => ⟨Nat.lt_succ_self _, hfree⟩) fun x hx hn => ⟨Nat.lt_succ_of_lt (Jh.pid x hx hn).1, (Jh.pid x hx hn).2⟩) (fun x hx y hy _ hn => ?_)
    (split (fun k' cs' mk' h => ⟨Jh.go.next, Jh.rel.famN _ (Nat.le_refl _), hfam⟩) Jh.pnew) (split (by simp) fun x hx b cs f s hxl => ?_) (split (by simp) fun x hx b cs f s h => Nat.lt_succ_of_lt (Jh.pwf x hx b cs f s h))
    (fun x _ v _ h => by rw [light_next]; exact h) (fun o T k cs mk h => by rw [light_next]; exact h) (fun _ _ h => h) (fun hc ha => .new a.T ⟨p.i, p.o, a.T, σ.next, .new k cs mk⟩ k cs mk hc hw (by simp) rfl rfl (by rw [light_next]; exact hl) hD ha)⟩
  · simp only [List.mem_singleton] at hx
    subst hx
    have := (Jh.pid y hy hn).1
    show σ.next ≠ y.id
    omega
  · obtain ⟨q1, q2, q3⟩ := Jh.pwr x hx b cs f s hxl
    exact ⟨q1, split (by simp) q2, split (fun _ _ _ _ => Nat.ne_of_lt (Jh.pwf x hx b cs f s hxl)) q3⟩

theorem light_any {o : Oper} (h : looks o.op = false) (T : Tr Value) (σ σ' : Mem) : light cx o T σ = light cx o T σ' := by
  unfold light
  cases ho : o.op <;> rw [ho] at h <;> first
    | rfl
    | cases h

theorem light_new_any {o : Oper} {T : Tr Value} {k : Kn} {cs : List Value} {mk : Nat → Value} (h : light cx o T σ = some (.ok (.new k cs mk))) (σ' : Mem) : light cx o T σ' = some (.ok (.new k cs mk)) := by
  cases hm : mayMake o.op with
  | false => obtain ⟨v, hv⟩ := light_only hm h; cases hv
  | true =>
    by_cases hs : looks o.op = false
    · rw [light_any hs T σ' σ]; exact h
    · unfold light at h ⊢
      cases ho : o.op <;> rw [ho] at h hm hs <;> first
        | (cases hm; done)
        | exact absurd rfl hs
        | skip
      rename_i t x lo hi mx
      simp only [Option.some.injEq] at h ⊢
      rcases slice_rest h with ⟨u, hu⟩ | ⟨a, len, esz, hx, hs'⟩
      · cases hu
      · rw [hx]
        exact hs'

theorem veq_go {n : Nat} (ih : ∀ u v, veq n u v = true → u = v) : ∀ (xs ys : List Value), veq.go n xs ys = true → xs = ys
  | [], [], _ => rfl
  | x :: xs, y :: ys, h => by
    simp only [veq.go] at h
    obtain ⟨h1, h2⟩ := and_true h
    rw [ih x y h1, veq_go ih xs ys h2]
  | [], _ :: _, h => by simp [veq.go] at h
  | _ :: _, [], h => by simp [veq.go] at h

theorem veq_eq : ∀ (n : Nat) (u v : Value), veq n u v = true → u = v
  | 0, u, v, h => by
    cases u <;> cases v <;> simp_all [veq]
    rename_i a b
    cases a; cases b
    simp_all
  | n + 1, u, v, h => by
    cases u <;> cases v <;> simp [veq] at h <;> first
      | simp_all; done
      | skip
    · rename_i a b
      cases a; cases b
      simp_all
    · obtain ⟨⟨h1, h2⟩, h3⟩ := h
      rw [h1, Array.toList_inj.1 (veq_go (veq_eq n) _ _ h2), Array.toList_inj.1 (veq_go (veq_eq n) _ _ h3)]
    · rw [h.1, veq_eq n _ _ h.2]
    · rw [Array.toList_inj.1 (veq_go (veq_eq n) _ _ h)]
    · rw [Array.toList_inj.1 (veq_go (veq_eq n) _ _ h)]

theorem again_ok : ∀ {l : List Pe}, again cx σ l = true → ∀ x ∈ l, ∀ v, x.l = .val v → looks x.o.op = true → light cx x.o x.T σ = some (.ok (.val v))
  | [], _, x, hx, _, _, _ => by cases hx
  | y :: r, h, x, hx, v, hv, hl => by
    simp only [again] at h
    obtain ⟨h1, h2⟩ := and_true h
    rcases List.mem_cons.1 hx with hxy | hx
    · subst hxy
      rw [hl, hv] at h1
      simp only [againV] at h1
      split at h1
      · rename_i u hu
        rw [hu, veq_eq far v u h1]
      · cases h1
    · exact again_ok h2 x hx v hv hl

/-- What was light ahead is so still. -/
theorem still (h : again cx σ' pe = true) : ∀ x ∈ pe, ∀ v, x.l = .val v → light cx x.o x.T σ = some (.ok (.val v)) → light cx x.o x.T σ' = some (.ok (.val v)) := by
  intro x hx v hv hl
  cases hk : looks x.o.op with
  | false => rw [light_any hk x.T σ' σ]; exact hl
  | true => exact again_ok h x hx v hv hk

theorem others_ok {f : Nat} : ∀ {l : List Pe}, others f l = true → ∀ x ∈ l, ∀ b cs s, x.l ≠ .wr b cs f s
  | [], _, x, hx, _, _, _ => by cases hx
  | y :: r, h, x, hx, b, cs, s => by
    simp only [others] at h
    rcases List.mem_cons.1 hx with hxy | hx
    · subst hxy
      intro hl
      rw [hl] at h
      simp only [Nat.beq_refl, Bool.not_true, Bool.false_and] at h
      cases h
    · refine others_ok ?_ x hx b cs s
      split at h
      · exact (and_true h).2
      · exact h

/-- A store that waits. -/
theorem J.takeWr (hok : regionOk ops.toList (Ns ops) = true) (Jh : J cx ops ι₀ D₀ σ₀ w₀ done pe a σ S old ι D ac w) (hp : p ∈ Ns ops) (hnd : bit done p.i = false) (hanc : ∀ k, bit p.anc k = true → bit done k = true)
    (hw : wantedA ops.toList p.o a.T = some true) {t : TypeId} {ad xo : Operand} {b off : Nat} {xv : Value} {cs' : List Value} {fam start n : Nat} (ho : p.o.op = .store t ad xo) (ha : evalO a.T ad = .ok (.pointer (some ⟨b, off, none⟩)))
    (hv : evalO a.T xo = .ok xv) (hs : storeB cx σ t b off xv = some (cs', fam, start, n)) (hot : others fam pe = true) (hput : a.put p.o.dst undef = .ok a')
    (hag : again cx { σ with h := (killAll b (start + off) n (family σ fam) σ.h).set b none } pe = true) :
    ∃ old', J cx ops ι₀ D₀ σ₀ w₀ (done ||| 2 ^ p.i) (⟨p.i, p.o, a.T, b, .wr b cs' fam start⟩ :: pe) a' { σ with h := (killAll b (start + off) n (family σ fam) σ.h).set b none } S old' ι D ac w := by
  obtain ⟨hS, hpe⟩ := Jh.notYet hnd
  obtain ⟨cs, hb, h2, h3, h4, h5, h6⟩ := storeB_ok hs
  have hbr := Jh.get hb
  have hbn : b < σ.next := Jh.rel.next b (Jh.rel.live b _ hbr).1
  have hlt : ∀ B, B < σ.next → B + 1 < 2 ^ deep := fun B h => by
    have h1 : σ.next ≤ VI.most := Jh.rel.bound
    rw [deep_pow]; unfold VI.most at h1; omega
  have hkf := killAll_full (me := b) (lo := start + off) (n := n) (family σ fam) Jh.fullM
  have hkeep : ∀ B blk, ((killAll b (start + off) n (family σ fam) σ.h).set b none).get B = some blk → B ≠ b ∧ σ.h.get B = some blk ∧ (B ∈ family σ fam → overlaps (some blk) (start + off) n = false) := by
    intro B blk hB
    have hne : B ≠ b := by
      intro he
      rw [he, get_set hkf _ _ _ (hlt b hbn), if_pos rfl] at hB
      cases hB
    have h1 := get_none_sub hB
    have h0 := killAll_sub _ h1
    have hBn := hlt B (Jh.rel.next B (Jh.rel.live B _ (Jh.get h0)).1)
    exact ⟨hne, h0, fun hm => (killAll_get _ Jh.fullM h1 hBn).2 hm hne⟩
  have hid : ∀ y ∈ pe, peBlk y ≠ none → b ≠ y.id := fun y hy hn he => by
    have h1 := (Jh.pid y hy hn).2
    rw [← he, hb] at h1
    cases h1
  have split : ∀ {P : Pe → Prop}, P ⟨p.i, p.o, a.T, b, .wr b cs' fam start⟩ → (∀ x ∈ pe, P x) → ∀ x ∈ [(⟨p.i, p.o, a.T, b, .wr b cs' fam start⟩ : Pe)] ++ pe, P x := by
    intro P h1 h2 x hx
    rcases List.mem_append.1 hx with hx | hx
    · simp only [List.mem_singleton] at hx; subst hx; exact h1
    · exact h2 x hx
  have hfull : Full deep ((killAll b (start + off) n (family σ fam) σ.h).set b none) := full_set hkf _ _
  have hpo : ∀ y ∈ pe, pres S (fun j => if j = p.i then some (.cells cs fam start) else old j) y = pres S old y := fun y hy => by
    unfold pres
    by_cases hs : S y.i
    · rw [if_pos hs, if_pos hs]
    · rw [if_neg hs, if_neg hs]
      exact if_neg (hpe y hy)
  have hpx : pres S (fun j => if j = p.i then some (.cells cs fam start) else old j) ⟨p.i, p.o, a.T, b, .wr b cs' fam start⟩ = some (.cells cs fam start) := by
    rw [pres_not hS]
    exact if_pos rfl
  have hown : Own (pres S fun j => if j = p.i then some (.cells cs fam start) else old j) deep ([⟨p.i, p.o, a.T, b, .wr b cs' fam start⟩] ++ pe) := by
    refine ⟨List.pairwise_cons.2 ⟨fun y hy _ hn => ?_, ?_⟩, split (fun _ => hlt b hbn) fun x hx hn => ?_⟩
    · rw [hpo y hy] at hn
      exact hid y hy (Jh.blk S hy hn)
    · refine (Jh.own S).one.imp_of_mem fun {x y} hx hy h h1 h2 => ?_
      rw [hpo x hx] at h1
      rw [hpo y hy] at h2
      exact h h1 h2
    · rw [hpo x hx] at hn
      exact (Jh.own S).lt x hx hn
  have hsub : ∀ B blk, (lay (pres S fun j => if j = p.i then some (.cells cs fam start) else old j) ([⟨p.i, p.o, a.T, b, .wr b cs' fam start⟩] ++ pe) ((killAll b (start + off) n (family σ fam) σ.h).set b none)).get B = some blk →
      (lay (pres S old) pe σ.h).get B = some blk := by
    intro B blk hB
    rcases lay_cases hfull hown hB with ⟨y, hy, hyB, hyb⟩ | ⟨_, hB⟩
    · rcases List.mem_append.1 hy with hy | hy
      · simp only [List.mem_singleton] at hy
        subst hy
        rw [hpx] at hyb
        cases hyb
        rw [← hyB]
        exact hbr
      · rw [hpo y hy] at hyb
        rw [← hyB]
        exact lay_in pe Jh.fullM (Jh.own S) hy hyb
    · exact Jh.get (hkeep B blk hB).2.1
  refine ⟨_, Jh.take (σ' := { σ with h := (killAll b (start + off) n (family σ fam) σ.h).set b none }) hok hp hnd hanc hput (xs := [⟨p.i, p.o, a.T, b, .wr b cs' fam start⟩]) (ho := some (.cells cs fam start)) (by simp) (by simp) (by simp) hfull
    (Jh.rel.sub (lay_full _ _ hfull) hsub) (Jh.go.less hsub) (split (fun _ => ⟨hbn, ?_⟩) fun x hx hn => ⟨(Jh.pid x hx hn).1, ?_⟩) (fun x hx y hy _ hn => ?_)
    (split (by simp) fun x hx k cs mk hxl => ?_) (split (fun b' cs f s hxl => ?_) fun x hx b' cs f s hxl => ?_) (split (fun b' cs f s hxl => ?_) Jh.pwf)
    (still hag) (fun o T k cs mk h => light_new_any h _) (fun B blk hB => (hkeep B blk hB).2.1) (fun hc haim => ?_)⟩
  · show ((killAll b (start + off) n (family σ fam) σ.h).set b none).get b = none
    rw [get_set hkf _ _ _ (hlt b hbn), if_pos rfl]
  · show ((killAll b (start + off) n (family σ fam) σ.h).set b none).get x.id = none
    cases hg : ((killAll b (start + off) n (family σ fam) σ.h).set b none).get x.id with
    | none => rfl
    | some blk =>
      have h1 := (hkeep _ _ hg).2.1
      rw [(Jh.pid x hx hn).2] at h1
      cases h1
  · simp only [List.mem_singleton] at hx
    subst hx
    exact hid y hy hn
  · obtain ⟨q1, q2, q3⟩ := Jh.pnew x hx k cs mk hxl
    exact ⟨q1, q2, fun B c s h => q3 B c s (hkeep B _ h).2.1⟩
  · cases hxl
    refine ⟨rfl, split (fun hne => absurd rfl hne) (fun y hy _ => others_ok hot y hy), split (by simp) (fun y hy k cs mk hyl he => ?_)⟩
    rw [he] at hb
    exact (Jh.pnew y hy k cs mk hyl).2.2 b _ _ hb
  · obtain ⟨q1, q2, q3⟩ := Jh.pwr x hx b' cs f s hxl
    refine ⟨q1, split (fun _ b2 c2 s2 he => ?_) q2, split (by simp) q3⟩
    cases he
    exact others_ok hot x hx _ _ _ hxl
  · cases hxl
    exact (Jh.rel.fam _ _ _ _ hbr).1
  · subst h6
    exact .wr a.T ⟨p.i, p.o, a.T, b, .wr b (overwrite cs off xv.cells.toList) fam start⟩ t ad xo off n xv cs fam start hc hw (by simp) rfl rfl ho ha hv h2 h3 h4 h5 (if_pos rfl)
      (fun B c s hB => (hkeep B _ hB).2.2 (Jh.rel.fam B _ _ _ (Jh.get (hkeep B _ hB).2.1)).2) haim

end
end
end Go.VI
