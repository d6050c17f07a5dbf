/-
  VI: a call whose run is taken in two: up to a place of its code, and, from less than what is known there, on.
-/
import Derived.Test.YtkfdjlhjeclcbaaGreatDoorViEnd
import Derived.Below
namespace Go.VI
open Go Go.RowKit
noncomputable section

/-- Codes one behind the other, and a last one. -/
def nest : List Code → Code → Code
  | [], q => q
  | c :: r, q => .seq c (nest r q)

def chain (rec : Rec) : List Code → Ac → Mem → Rs Out
  | [], a, σ => .ok (.code .normal a σ)
  | c :: r, a, σ => match rec (.code none c a) σ with
    | .ok (.code .normal a σ) => chain rec r a σ
    | .ok _ => .er ["chain"]
    | .er w => .er w

section
variable {cx : Cx} {rec : Rec} {ι ι' : Emb} {D D' : Nat → Prop} {σ σ' : Mem} {w w' : World} {a a' : Ac} {ac : Act} {Q : Exit → Act → World → Prop}

theorem chain_sound (S : Sound cx rec) {q : Code} : ∀ (cs : List Code) (a : Ac) (σ : Mem) (ι : Emb) (D : Nat → Prop) (w : World) (ac : Act), chain rec cs a σ = .ok (.code .normal a' σ') → Rel ι D σ w → AR ι D a ac →
    (∀ ι' D' w' ac', Rel ι' D' σ' w' → Go1 ι D σ w ι' D' σ' w' → AR ι' D' a' ac' → q.wpIn Fence.wide 0 cx.P Q ac' w') → (nest cs q).wpIn Fence.wide 0 cx.P Q ac w
  | [], a, σ, ι, D, w, ac, h, R, A, k => by
    cases h
    exact k ι D w ac R (Go1.refl _ _ _ _) A
  | c :: r, a, σ, ι, D, w, ac, h, R, A, k => by
    simp only [chain] at h
    cases h1 : rec (.code none c a) σ with
    | er e => rw [h1] at h; cases h
    | ok o =>
      rw [h1] at h
      refine wpIn_seq (wpIn_mono (S _ _ _ h1 ι D w R ac A (fun l hl => by cases hl)) ?_)
      rintro e₁ ac₁ w₁ ⟨e, a₁, σ₁, ι₁, D₁, rfl, R₁, g₁, A₁, x₁⟩
      cases e <;> simp only at h <;> first
        | (cases h; done)
        | skip
      cases x₁
      exact chain_sound S r a₁ σ₁ ι₁ D₁ w₁ ac₁ h R₁ A₁ fun ι' D' w' ac' R' g' A' => k ι' D' w' ac' R' (g₁.trans g') A'

/-- Of a memory less is kept: some of its blocks; a family that is kept is known. -/
structure Keep (a : Ac) (σ : Mem) (a' : Ac) (σ' : Mem) : Prop where
  fullT : Full deepT a'.T
  T : ∀ t v, a'.T.get t = some v → a.T.get t = some v
  nt : a'.nt = a.nt
  ds : a'.ds = a.ds
  full : Full deep σ'.h
  fullF : Full deep σ'.fams
  sub : ∀ B b, σ'.h.get B = some b → σ.h.get B = some b
  next : σ.next ≤ σ'.next
  bound : σ'.next ≤ most
  fam : ∀ B cs f s, σ'.h.get B = some (.cells cs f s) → f < σ'.next ∧ B ∈ family σ' f ∧ σ'.fams.get f ≠ none
  famN : ∀ f, σ'.next ≤ f → σ'.fams.get f = none

theorem Keep.rel (k : Keep a σ a' σ') (R : Rel ι D σ w) : Rel ι D σ' w where
  full := k.full
  fullF := k.fullF
  glob := R.glob
  low := Nat.le_trans R.low k.next
  next B h := Nat.lt_of_lt_of_le (R.next B h) k.next
  live B b h := R.live B b (k.sub B b h)
  inj B B' b b' h h' := R.inj B B' b b' (k.sub B b h) (k.sub B' b' h')
  fam B cs f s h := ⟨(k.fam B cs f s h).1, (k.fam B cs f s h).2.1⟩
  exact B cs f s h hn := absurd hn (k.fam B cs f s h).2.2
  famN := k.famN
  bound := k.bound

theorem Keep.ar (k : Keep a σ a' σ') (A : AR ι D a ac) : AR ι D a' ac :=
  ⟨⟨k.fullT, by rw [k.nt]; exact A.t.size, by rw [k.nt]; exact A.t.most, fun t v h => A.t.all t v (k.T t v h)⟩, by rw [k.ds]; exact A.d, by rw [k.ds]; exact A.o⟩

/-- A start of which nothing is written. -/
def Read (σ : Mem) : Prop := ∀ B b, σ.h.get B = some b → writes b = false

theorem Go1.below (g : Go1 ι D σ w ι' D' σ' w') (h : Read σ) : Below w.heap.size w w' :=
  ⟨g.os, g.tape, g.output, g.size, fun b hb => g.frame b hb fun B blk hB hw => by rw [h B blk hB] at hw; cases hw⟩

/-- **A CALL, IN TWO.** -/
theorem calls_split (ok : CxOk cx) {n m : Nat} {f : FuncId} {fn : Func} {cs : List Code} {q : Code} (hfn : cx.fn f = some fn) (hb : fn.body = some (nest cs q)) (hnt : fn.ntmps ≤ mostT) {σ₀ σ₁ σ₂ σ₃ : Mem} {a₁ a₂ : Ac}
    (h₁ : chain (run cx n) cs (startA fn.ntmps []) σ₀ = .ok (.code .normal a₁ σ₁)) (k : Keep a₁ σ₁ a₂ σ₂) {v : Value} (h₂ : leaveR cx (run cx m) fn (run cx m (.code none q a₂) σ₂) = .ok (.call (.returned v) σ₃)) (hv : shut v = true)
    (R : Rel ι D σ₀ w) (hro : Read σ₀) : Calls cx.P f #[] w fun e w' => e = .returned v ∧ Below w.heap.size w w' := by
  have hP := ok.fn f fn hfn
  refine (callsIn_wide (n := 0)).1 (callsIn_of_wp_marks hP hb trivial ?_)
  refine chain_sound (run_sound ok n) cs _ _ ι D w _ h₁ R (start_sound hnt (Nat.zero_le _) (by simp)) fun ι₁ D₁ w₁ ac₁ R₁ g₁ A₁ => ?_
  have R₂ := k.rel R₁
  have A₂ := k.ar A₁
  have b₁ := g₁.below hro
  -- what is written behind that place isn't what was there at first
  have far : ∀ b, b < w.heap.size → ∀ B blk, σ₂.h.get B = some blk → writes blk = true → (ι₁ B).blk ≠ b := by
    intro b hb B blk hB hw he
    rcases g₁.range B blk (k.sub B blk hB) (writes_lies hw) with h | ⟨B0, b0, h1, _, h3, _⟩
    · omega
    · have := h3 hw
      rw [hro B0 b0 h1] at this
      cases this
  have last : ∀ {ι₃ : Emb} {D₃ : Nat → Prop} {σ₃ : Mem} {w₃ : World}, Go1 ι₁ D₁ σ₂ w₁ ι₃ D₃ σ₃ w₃ → Below w.heap.size w w₃ := fun g =>
    b₁.trans ⟨g.os, g.tape, g.output, g.size, fun b hb => g.frame b (Nat.lt_of_lt_of_le hb b₁.size) (far b hb)⟩
  cases hrec : run cx m (.code none q a₂) σ₂ with
  | er e => rw [hrec] at h₂; cases h₂
  | ok o =>
    rw [hrec] at h₂
    have hS := run_sound ok m _ _ _ hrec ι₁ D₁ w₁ R₂ ac₁ A₂ (fun l hl => by cases hl)
    refine wpIn_mono hS ?_
    rintro e' ac' w' ⟨e, a', σ', ι', D', rfl, R', g', A', x'⟩
    have fin : ∀ {e : Ending} {w'' : World}, PostCall ι' D' σ' w' (.call (.returned v) σ₃) e w'' → e = .returned v ∧ Below w.heap.size w w'' := by
      rintro e w'' ⟨e₁, σ₄, ι₄, D₄, h1, _, g₄, x₄⟩
      cases h1
      obtain ⟨_, rfl⟩ := x₄
      exact ⟨by rw [(vok_shut (ι := ι₄) (D := D₄) hv).1], last (g'.trans g₄)⟩
    simp only [leaveR] at h₂
    cases e with
    | normal =>
      cases x'
      show LeavesInM _ _ _ _ _ _ _ _ _
      rw [A'.d]
      exact leave_sound (run_sound ok m) ok a'.ds .returning σ' ι' D' w' h₂ R' A'.t A'.o trivial (by simp) (fun e w hp => fin hp)
    | ret =>
      cases x'
      show LeavesInM _ _ _ _ _ _ _ _ _
      rw [A'.d]
      exact leave_sound (run_sound ok m) ok a'.ds .returning σ' ι' D' w' h₂ R' A'.t A'.o trivial (by simp) (fun e w hp => fin hp)
    | panic ch =>
      obtain ⟨oc, rfl⟩ := x'
      show LeavesInM _ _ _ _ _ _ _ _ _
      rw [A'.d]
      exact leave_sound (run_sound ok m) ok a'.ds (.panicking ch) σ' ι' D' w' h₂ R' A'.t A'.o oc (by simp) (fun e w hp => fin hp)
    | exit id => cases h₂
    | goto l => cases h₂
    | outgrown => cases h₂

/-- A call, in one. -/
theorem calls_whole (ok : CxOk cx) {n : Nat} {f : FuncId} {args : List Value} {v : Value} {σ₀ σ : Mem} (ha : ∀ x ∈ args, shut x = true) (hv : shut v = true)
    (h : run cx n (.call f args) σ₀ = .ok (.call (.returned v) σ)) (R : Rel ι D σ₀ w) (hro : Read σ₀) : Calls cx.P f args.toArray w fun e w' => e = .returned v ∧ Below w.heap.size w w' := by
  have hS := run_sound ok n _ _ _ h ι D w R (fun x hx => (vok_shut (ha x hx)).2)
  have ha' : args.map (ren ι) = args := by
    conv => rhs; rw [← List.map_id args]
    exact List.map_congr_left fun x hx => (vok_shut (D := D) (ha x hx)).1
  rw [ha'] at hS
  refine Calls.mono (callsIn_wide.1 hS) ?_
  rintro e w' ⟨e', σ', ι', D', h1, R', g', x'⟩
  cases h1
  obtain ⟨_, rfl⟩ := x'
  exact ⟨by rw [(vok_shut (ι := ι') (D := D') hv).1], g'.below hro⟩

/-! ### A memory that is written out -/

def setL {α : Type} (d : Nat) : List (Nat × α) → Tr α
  | [] => Tr.blank d
  | p :: r => (setL d r).set p.1 (some p.2)

theorem setL_full {α : Type} (d : Nat) : ∀ l : List (Nat × α), Full d (setL d l)
  | [] => full_blank _
  | _ :: r => full_set (setL_full d r) _ _

theorem setL_mem {α : Type} (d : Nat) : ∀ (l : List (Nat × α)) {k : Nat} {x : α}, (setL d l).get k = some x → (k, x) ∈ l
  | [], k, x, h => by simp only [setL, get_blank] at h; cases h
  | p :: r, k, x, h => by
    simp only [setL] at h
    by_cases hk : p.1 + 1 < 2 ^ d
    · rw [get_set (setL_full d r) _ _ _ hk] at h
      split at h
      · rename_i e
        cases h
        subst e
        simp
      · exact List.mem_cons_of_mem _ (setL_mem d r h)
    · -- a place beyond: nothing is set there
      refine List.mem_cons_of_mem _ (setL_mem d r (beyond (setL_full d r) hk h))
where
  beyond {α : Type} : ∀ {d : Nat} {t : Tr α}, Full d t → ∀ {k j : Nat} {y : Option α} {x : α}, ¬ k + 1 < 2 ^ d → (t.set k y).get j = some x → t.get j = some x := by
    intro d t ht
    induction ht with
    | lf => intro k j y x _ h; exact h
    | @nd d v l r hl hr ihl ihr =>
      intro k j y x hk h
      have hp : 2 ^ (d + 1) = 2 ^ d * 2 := Nat.pow_succ ..
      have h1 : 1 ≤ 2 ^ d := Nat.one_le_two_pow
      cases k with
      | zero => omega
      | succ k =>
        rw [set_nd] at h
        have hk' : ¬ k / 2 + 1 < 2 ^ d := by omega
        cases j with
        | zero => split at h <;> exact h
        | succ j =>
          rw [get_nd]
          split at h
          · rw [get_nd] at h
            split at h
            · rename_i e; rw [if_pos e]; exact ihl hk' h
            · rename_i e; rw [if_neg e]; exact h
          · rw [get_nd] at h
            split at h
            · rename_i e; rw [if_pos e]; exact h
            · rename_i e; rw [if_neg e]; exact ihr hk' h

/-- Blocks that are kept, and their numbers. -/
abbrev Kp := List (Nat × Blk)

def kpH (k : Kp) : Tr Blk := setL deep k

def famB (b : Blk) : Option Nat :=
  match b with
  | .cells _ f _ => some f
  | _ => none

def famP (L : List Nat) (p : Nat × Blk) : Option (Nat × List Nat) :=
  match famB p.2 with
  | some f => some (f, L)
  | none => none

/-- Their families: of each, all that is kept. -/
def kpF (k : Kp) : Tr (List Nat) := setL deep (k.filterMap (famP (k.map fun q => q.1)))

def kpM (k : Kp) (next : Nat) : Mem := ⟨kpH k, next, kpF k⟩

def isNormal (r : Rs Out) (test : Ac → Mem → Bool) : Bool :=
  match r with
  | .ok (.code .normal a σ) => test a σ
  | _ => false

def hasV (v : Value) (o : Option Value) : Bool :=
  match o with
  | some u => veq far v u
  | none => false

def hasB (b : Blk) (o : Option Blk) : Bool :=
  match b with
  | .cells cs f s => (match o with
    | some (.cells cs' f' s') => veq.go far cs cs' && Nat.beq f f' && Nat.beq s s'
    | _ => false)
  | .ro cs => (match o with
    | some (.ro cs') => veq.go far cs cs'
    | _ => false)
  | _ => false

theorem hasB_ok {b : Blk} {o : Option Blk} (h : hasB b o = true) : o = some b := by
  unfold hasB at h
  split at h
  · split at h
    · obtain ⟨q1, q3⟩ := and_true h
      obtain ⟨q1, q2⟩ := and_true q1
      rw [veq_go (veq_eq far) _ _ q1, beq_eq q2, beq_eq q3]
    · cases h
  · split at h
    · rw [veq_go (veq_eq far) _ _ h]
    · cases h
  · cases h

def allP {α : Type} (f : α → Bool) : List α → Bool
  | [] => true
  | x :: r => f x && allP f r

theorem allP_ok {α : Type} {f : α → Bool} : ∀ {l : List α}, allP f l = true → ∀ x ∈ l, f x = true
  | [], _, x, h => by cases h
  | y :: r, h, x, hx => by
    simp only [allP] at h
    obtain ⟨h1, h2⟩ := and_true h
    rcases List.mem_cons.1 hx with hx | hx
    · subst hx; exact h1
    · exact allP_ok h2 x hx

def noDs (l : List Deferred) : Bool :=
  match l with
  | [] => true
  | _ => false

/-- Is all that is kept there? -/
def keepOk (T : List (Nat × Value)) (nt : Nat) (k : Kp) (next : Nat) (a : Ac) (σ : Mem) : Bool :=
  Nat.beq a.nt nt && noDs a.ds && Nat.ble σ.next next && allP (fun p => hasV p.2 (a.T.get p.1)) T && allP (fun p => hasB p.2 (σ.h.get p.1)) k

def kinOk (F : Tr (List Nat)) (next : Nat) (p : Nat × Blk) : Bool :=
  match famB p.2 with
  | some f => Nat.ble (f + 1) next && (F.get f).isSome
  | none => true

/-- What is kept is all right by itself. -/
def kpOk (k : Kp) (next : Nat) : Bool := Nat.ble next VI.most && allP (kinOk (kpF k) next) k

theorem kpF_all (k : Kp) : ∀ f L, (kpF k).get f = some L → L = k.map (·.1) ∧ ∃ p ∈ k, famB p.2 = some f := by
  intro f L h
  obtain ⟨p, p1, p2⟩ := List.mem_filterMap.1 (setL_mem _ _ h)
  unfold famP at p2
  split at p2
  · rename_i g hg
    cases p2
    exact ⟨rfl, p, p1, hg⟩
  · cases p2

theorem keep_of {T : List (Nat × Value)} {nt next : Nat} {k : Kp} (h : keepOk T nt k next a σ = true) (h' : kpOk k next = true) : Keep a σ ⟨setL deepT T, nt, []⟩ (kpM k next) := by
  unfold keepOk at h
  obtain ⟨h, h5⟩ := and_true h
  obtain ⟨h, h4⟩ := and_true h
  obtain ⟨h, h3⟩ := and_true h
  obtain ⟨h1, h2⟩ := and_true h
  unfold kpOk at h'
  obtain ⟨k1, k2⟩ := and_true h'
  have kin : ∀ p ∈ k, ∀ f, famB p.2 = some f → f + 1 ≤ next ∧ (kpF k).get f ≠ none := by
    intro p hp f hf
    have := allP_ok k2 p hp
    unfold kinOk at this
    rw [hf] at this
    obtain ⟨q1, q2⟩ := and_true this
    exact ⟨ble_le q1, fun he => by rw [he] at q2; cases q2⟩
  refine ⟨setL_full _ _, fun t v ht => ?_, (beq_eq h1).symm, ?_, setL_full _ _, setL_full _ _, fun B b hB => ?_, ble_le h3, ble_le k1, fun B cs f s hB => ?_, fun f hn => ?_⟩
  · have := allP_ok h4 _ (setL_mem _ _ ht)
    unfold hasV at this
    split at this
    · rename_i u hu
      simp only at hu
      rw [hu, veq_eq far v u this]
    · cases this
  · show [] = a.ds
    unfold noDs at h2
    split at h2
    · rename_i e; exact e.symm
    · cases h2
  · exact hasB_ok (allP_ok h5 _ (setL_mem _ _ hB))
  · have hm := setL_mem _ _ hB
    obtain ⟨q1, q2⟩ := kin _ hm f rfl
    refine ⟨q1, ?_, q2⟩
    show B ∈ famL ((kpF k).get f) f
    cases hg : (kpF k).get f with
    | none => exact absurd hg q2
    | some L => rw [(kpF_all k _ _ hg).1]; exact List.mem_map.2 ⟨_, hm, rfl⟩
  · show (kpF k).get f = none
    cases hg : (kpF k).get f with
    | none => rfl
    | some L =>
      obtain ⟨_, p, p1, p2⟩ := kpF_all k _ _ hg
      have := (kin p p1 f p2).1
      have hn : next ≤ f := hn
      omega

theorem isNormal_ok {r : Rs Out} {test : Ac → Mem → Bool} (h : isNormal r test = true) : ∃ a σ, r = .ok (.code .normal a σ) ∧ test a σ = true := by
  unfold isNormal at h
  split at h
  · rename_i a σ
    exact ⟨a, σ, rfl, h⟩
  · cases h

/-- Does a call return true? -/
def isTrue (r : Rs Out) : Bool :=
  match r with
  | .ok (.call (.returned (.bool b)) _) => b
  | _ => false

theorem isTrue_ok {r : Rs Out} (h : isTrue r = true) : ∃ σ, r = .ok (.call (.returned (.bool true)) σ) := by
  unfold isTrue at h
  split at h
  · rename_i b σ
    cases h
    exact ⟨σ, rfl⟩
  · cases h

end
end
end Go.VI
