/-
  VI: how the interpreter's memory and the machine's belong together.
-/
import Derived.Test.YtkfdjlhjeclcbaaGreatDoorViRun
import Derived.RangeFuncRecord
import Derived.RecoverIn
import Derived.OrdersIn
namespace Go.VI
open Go
noncomputable section

/-! ### Trees -/

inductive Full {α : Type} : Nat → Tr α → Prop
  | lf : Full 0 .lf
  | nd {d : Nat} {v : Option α} {l r : Tr α} (hl : Full d l) (hr : Full d r) : Full (d + 1) (.nd v l r)

theorem full_blank {α : Type} (n : Nat) : Full n (Tr.blank n : Tr α) := by
  induction n with
  | zero => exact .lf
  | succ n ih => exact .nd ih ih

theorem get_blank {α : Type} (n k : Nat) : (Tr.blank n : Tr α).get k = none := by
  induction n generalizing k with
  | zero => rfl
  | succ n ih =>
    cases k with
    | zero => rfl
    | succ k =>
      show (Nat.rec (motive := fun _ => Option α) ((Tr.blank n : Tr α).get (Nat.div k 2)) (fun _ _ => (Tr.blank n : Tr α).get (Nat.div k 2)) (Nat.mod k 2)) = none
      cases Nat.mod k 2 <;> exact ih _

theorem get_nd {α : Type} (v : Option α) (l r : Tr α) (k : Nat) : (Tr.nd v l r).get (k + 1) = if k % 2 = 0 then l.get (k / 2) else r.get (k / 2) := by
  show (Nat.rec (motive := fun _ => Option α) (l.get (k / 2)) (fun _ _ => r.get (k / 2)) (k % 2)) = _
  rcases Nat.mod_two_eq_zero_or_one k with h | h <;> rw [h] <;> rfl

theorem set_nd {α : Type} (v : Option α) (l r : Tr α) (k : Nat) (x : Option α) :
    (Tr.nd v l r).set (k + 1) x = if k % 2 = 0 then .nd v (l.set (k / 2) x) r else .nd v l (r.set (k / 2) x) := by
  show (Nat.rec (motive := fun _ => Tr α) (.nd v (l.set (k / 2) x) r) (fun _ _ => .nd v l (r.set (k / 2) x)) (k % 2)) = _
  rcases Nat.mod_two_eq_zero_or_one k with h | h <;> rw [h] <;> rfl

theorem full_set {α : Type} {d : Nat} {t : Tr α} (h : Full d t) (k : Nat) (x : Option α) : Full d (t.set k x) := by
  induction h generalizing k with
  | lf => exact .lf
  | nd hl hr ihl ihr =>
    cases k with
    | zero => exact .nd hl hr
    | succ k =>
      rw [set_nd]
      split
      · exact .nd (ihl _) hr
      · exact .nd hl (ihr _)

theorem get_set {α : Type} {d : Nat} {t : Tr α} (h : Full d t) (k j : Nat) (x : Option α) (hk : k + 1 < 2 ^ d) :
    (t.set k x).get j = if j = k then x else t.get j := by
  induction h generalizing k j with
  | lf => simp at hk
  | @nd d v l r hl hr ihl ihr =>
    cases k with
    | zero =>
      cases j with
      | zero => rfl
      | succ j => rw [if_neg (show ¬ (j + 1 = 0) by omega), get_nd]; show (Tr.nd x l r).get (j + 1) = _; rw [get_nd]
    | succ k =>
      have hp : k / 2 + 1 < 2 ^ d := by
        have : 2 ^ (d + 1) = 2 ^ d * 2 := Nat.pow_succ ..
        omega
      rw [set_nd]
      cases j with
      | zero =>
        rw [if_neg (show ¬ (0 = k + 1) by omega)]
        split <;> rfl
      | succ j =>
        split
        · rename_i hk2
          rw [get_nd, get_nd, ihl _ _ hp]
          by_cases hj : j % 2 = 0
          · rw [if_pos hj, if_pos hj]
            by_cases e : j = k
            · subst e; simp
            · rw [if_neg (by omega), if_neg (by omega)]
          · rw [if_neg hj, if_neg hj, if_neg (by omega)]
        · rename_i hk2
          rw [get_nd, get_nd, ihr _ _ hp]
          by_cases hj : j % 2 = 0
          · rw [if_pos hj, if_pos hj, if_neg (by omega)]
          · rw [if_neg hj, if_neg hj]
            by_cases e : j = k
            · subst e; simp
            · rw [if_neg (by omega), if_neg (by omega)]

/-! ### Values, renamed -/

/-- Where a block lies: the machine's block, where its first cell is there, where the room ends. -/
structure Em where
  blk : Nat
  shift : Nat
  limit : Nat

abbrev Emb := Nat → Em

def renA (ι : Emb) (a : Addr) : Addr := ⟨(ι a.block).blk, (ι a.block).shift + a.off, none⟩

def renF (ι : Emb) (fn : Fn) : Fn :=
  match fn with
  | .yield l => .yield (ι l).blk
  | fn => fn

def ren (ι : Emb) : Value → Value
  | .pointer (some a) => .pointer (some (renA ι a))
  | .slice (some a) len esz => .slice (some (renA ι a)) len (((ι a.block).limit - ((ι a.block).shift + a.off)) / esz)
  | .map (some r) => .map (some (ι r).blk)
  | .func fn first captured => .func (renF ι fn) (first.map (ren ι)) (captured.map (ren ι))
  | .iface t v => .iface t (ren ι v)
  | .agg cs => .agg (cs.map (ren ι))
  | .tuple vs => .tuple (vs.map (ren ι))
  | .bool b => .bool b
  | .int k n => .int k n
  | .float k b => .float k b
  | .complex k a b => .complex k a b
  | .string s => .string s
  | .pointer none => .pointer none
  | .slice none n c => .slice none n c
  | .map none => .map none
  | .chan r => .chan r
  | .nilFunc => .nilFunc
  | .nilIface => .nilIface

def okF (D : Nat → Prop) (fn : Fn) : Prop :=
  match fn with
  | .yield l => D l
  | _ => True

/-- A value all of whose blocks are known, its slices within their room. -/
def vok (ι : Emb) (D : Nat → Prop) : Value → Prop
  | .pointer (some a) => D a.block ∧ a.spot = none
  | .slice (some a) len esz => D a.block ∧ a.spot = none ∧ 0 < esz ∧ (ι a.block).shift + a.off + len * esz ≤ (ι a.block).limit
  | .map (some r) => D r
  | .func fn first captured => okF D fn ∧ (∀ v ∈ first, vok ι D v) ∧ (∀ v ∈ captured, vok ι D v)
  | .iface _ v => vok ι D v
  | .agg cs => ∀ v ∈ cs, vok ι D v
  | .tuple vs => ∀ v ∈ vs, vok ι D v
  | .slice none n c => n = 0 ∧ c = 0
  | .chan _ => False
  | _ => True

theorem vok_closed {ι : Emb} {D : Nat → Prop} : ∀ (n : Nat) (v : Value), closed n v = true → ren ι v = v ∧ vok ι D v := by
  intro n
  induction n with
  | zero =>
    intro v h
    cases v <;> simp [closed] at h <;> simp [ren, vok]
  | succ n ih =>
    intro v h
    cases v with
    | bool b => simp [ren, vok]
    | int k m => simp [ren, vok]
    | string s => simp [ren, vok]
    | nilFunc => simp [ren, vok]
    | nilIface => simp [ren, vok]
    | pointer a => cases a <;> simp [closed] at h <;> simp [ren, vok]
    | slice a m c => cases a <;> simp [closed] at h <;> simp [ren, vok, h]
    | map r => cases r <;> simp [closed] at h <;> simp [ren, vok]
    | iface t v =>
      simp only [closed] at h
      simp [ren, vok, ih v h]
    | agg cs =>
      simp only [closed, List.all_eq_true] at h
      simp only [ren, vok]
      refine ⟨?_, fun v hv => (ih v (h v (Array.mem_toList_iff.2 hv))).2⟩
      have : cs.map (ren ι) = cs := by
        conv => rhs; rw [← Array.map_id cs]
        exact Array.map_congr_left fun v hv => (ih v (h v (Array.mem_toList_iff.2 hv))).1
      rw [this]
    | tuple cs =>
      simp only [closed, List.all_eq_true] at h
      simp only [ren, vok]
      refine ⟨?_, fun v hv => (ih v (h v (Array.mem_toList_iff.2 hv))).2⟩
      have : cs.map (ren ι) = cs := by
        conv => rhs; rw [← Array.map_id cs]
        exact Array.map_congr_left fun v hv => (ih v (h v (Array.mem_toList_iff.2 hv))).1
      rw [this]
    | float k b => simp [closed] at h
    | complex k a b => simp [closed] at h
    | chan r => simp [closed] at h
    | func f a b => simp [closed] at h

theorem vok_shut {ι : Emb} {D : Nat → Prop} {v : Value} (h : shut v = true) : ren ι v = v ∧ vok ι D v := by
  cases v <;> simp only [shut] at h <;> first | exact vok_closed _ _ h | simp [ren, vok]

/-- What is known stays as it is when more is known. -/
structure Ext (ι : Emb) (D : Nat → Prop) (ι' : Emb) (D' : Nat → Prop) : Prop where
  dom : ∀ B, D B → D' B
  em : ∀ B, D B → ι' B = ι B

theorem Ext.refl (ι : Emb) (D : Nat → Prop) : Ext ι D ι D := ⟨fun _ h => h, fun _ _ => rfl⟩

theorem Ext.trans {ι ι' ι'' : Emb} {D D' D'' : Nat → Prop} (h : Ext ι D ι' D') (k : Ext ι' D' ι'' D'') : Ext ι D ι'' D'' :=
  ⟨fun B hB => k.dom B (h.dom B hB), fun B hB => (k.em B (h.dom B hB)).trans (h.em B hB)⟩

theorem vok_ext {ι ι' : Emb} {D D' : Nat → Prop} (h : Ext ι D ι' D') (v : Value) : vok ι D v → ren ι' v = ren ι v ∧ vok ι' D' v := by
  fun_induction vok ι D v with
  | case1 a =>
    rintro ⟨h1, h2⟩
    simp only [ren, vok, renA, h.em _ h1]
    exact ⟨trivial, h.dom _ h1, h2⟩
  | case2 a len esz =>
    rintro ⟨h1, h2, h3, h4⟩
    simp only [ren, vok, renA, h.em _ h1]
    exact ⟨trivial, h.dom _ h1, h2, h3, h4⟩
  | case3 r =>
    intro h1
    simp only [ren, vok, h.em _ h1]
    exact ⟨trivial, h.dom _ h1⟩
  | case4 fn first captured ih1 ih2 =>
    rintro ⟨h0, h1, h2⟩
    refine ⟨?_, ?_⟩
    · simp only [ren]
      rw [Array.map_congr_left (fun v hv => (ih1 v hv (h1 v hv)).1), Array.map_congr_left (fun v hv => (ih2 v hv (h2 v hv)).1)]
      cases fn <;> simp only [renF]
      rw [h.em _ h0]
    · rw [vok]
      refine ⟨?_, fun v hv => (ih1 v hv (h1 v hv)).2, fun v hv => (ih2 v hv (h2 v hv)).2⟩
      cases fn <;> first | exact h.dom _ h0 | trivial
  | case5 t v ih =>
    intro h1
    simp only [ren, vok]
    exact ⟨by rw [(ih h1).1], (ih h1).2⟩
  | case6 cs ih =>
    intro h1
    simp only [ren, vok]
    exact ⟨by rw [Array.map_congr_left fun v hv => (ih v hv (h1 v hv)).1], fun v hv => (ih v hv (h1 v hv)).2⟩
  | case7 vs ih =>
    intro h1
    simp only [ren, vok]
    exact ⟨by rw [Array.map_congr_left fun v hv => (ih v hv (h1 v hv)).1], fun v hv => (ih v hv (h1 v hv)).2⟩
  | case8 n c => intro h1; simp only [ren, vok]; exact ⟨trivial, h1⟩
  | case9 r => exact False.elim
  | case10 v h1 h2 h3 h4 h5 h6 h7 h8 h9 =>
    intro _
    cases v with
    | pointer a => cases a with
      | none => simp [ren, vok]
      | some a => exact (h1 a rfl).elim
    | slice a m c => cases a with
      | none => exact (h8 m c rfl).elim
      | some a => exact (h2 a m c rfl).elim
    | map r => cases r with
      | none => simp [ren, vok]
      | some r => exact (h3 r rfl).elim
    | func f a b => exact (h4 f a b rfl).elim
    | iface t v => exact (h5 t v rfl).elim
    | agg cs => exact (h6 cs rfl).elim
    | tuple cs => exact (h7 cs rfl).elim
    | chan r => exact (h9 r rfl).elim
    | _ => simp [ren, vok]

theorem Ext.ren {ι ι' : Emb} {D D' : Nat → Prop} (h : Ext ι D ι' D') {v : Value} (hv : vok ι D v) : VI.ren ι' v = VI.ren ι v := (vok_ext h v hv).1
theorem Ext.vok {ι ι' : Emb} {D D' : Nat → Prop} (h : Ext ι D ι' D') {v : Value} (hv : VI.vok ι D v) : VI.vok ι' D' v := (vok_ext h v hv).2

/-! ### A call's temporaries -/

structure TR (ι : Emb) (D : Nat → Prop) (T : Tr Value) (nt : Nat) (tmps : Array Value) : Prop where
  full : Full deepT T
  size : tmps.size = nt
  most : nt ≤ mostT
  all : ∀ t v, T.get t = some v → tmps[t]? = some (ren ι v) ∧ vok ι D v

def renD (ι : Emb) (d : Deferred) : Deferred :=
  { target := match d.target with
      | .fn fn captured => .fn (renF ι fn) (captured.map (ren ι))
      | .collected r => .collected (ι r).blk
      | t => t
    args := d.args.map (ren ι) }

def okD (ι : Emb) (D : Nat → Prop) (d : Deferred) : Prop :=
  (match d.target with
    | .fn fn captured => okF D fn ∧ ∀ v ∈ captured, vok ι D v
    | .collected r => D r
    | _ => True) ∧ ∀ v ∈ d.args, vok ι D v

structure AR (ι : Emb) (D : Nat → Prop) (a : Ac) (ac : Act) : Prop where
  t : TR ι D a.T a.nt ac.tmps
  d : ac.defers = a.ds.map (renD ι)
  o : ∀ d ∈ a.ds, okD ι D d

theorem TR.ext {ι ι' : Emb} {D D' : Nat → Prop} (h : Ext ι D ι' D') {T : Tr Value} {nt : Nat} {tmps : Array Value} (t : TR ι D T nt tmps) : TR ι' D' T nt tmps :=
  ⟨t.full, t.size, t.most, fun k v hk => let ⟨h1, h2⟩ := t.all k v hk; ⟨by rw [h.ren h2]; exact h1, h.vok h2⟩⟩

theorem renD_ext {ι ι' : Emb} {D D' : Nat → Prop} (h : Ext ι D ι' D') {d : Deferred} (o : okD ι D d) : renD ι' d = renD ι d ∧ okD ι' D' d := by
  obtain ⟨tg, args⟩ := d
  obtain ⟨h1, h2⟩ := o
  have ha : args.map (VI.ren ι') = args.map (VI.ren ι) := Array.map_congr_left fun v hv => h.ren (h2 v hv)
  refine ⟨?_, ?_, fun v hv => h.vok (h2 v hv)⟩
  · simp only [renD, ha]
    cases tg with
    | fn fn captured =>
      obtain ⟨h3, h4⟩ := h1
      simp only
      rw [Array.map_congr_left fun v hv => h.ren (h4 v hv)]
      cases fn <;> simp only [renF]
      rw [h.em _ h3]
    | collected r => simp only [h.em _ h1]
    | _ => rfl
  · cases tg with
    | fn fn captured =>
      obtain ⟨h3, h4⟩ := h1
      refine ⟨?_, fun v hv => h.vok (h4 v hv)⟩
      cases fn <;> first | exact h.dom _ h3 | trivial
    | collected r => exact h.dom _ h1
    | _ => trivial

theorem AR.ext {ι ι' : Emb} {D D' : Nat → Prop} (h : Ext ι D ι' D') {a : Ac} {ac : Act} (r : AR ι D a ac) : AR ι' D' a ac :=
  ⟨r.t.ext h, by rw [r.d]; exact List.map_congr_left fun d hd => ((renD_ext h (r.o d hd)).1).symm, fun d hd => (renD_ext h (r.o d hd)).2⟩

theorem deepT_pow : (2 : Nat) ^ deepT = 1024 := by decide

theorem TR.set {ι : Emb} {D : Nat → Prop} {T : Tr Value} {nt : Nat} {tmps : Array Value} (t : TR ι D T nt tmps) {d : Nat} {v : Value} (hd : d < nt) (hv : vok ι D v) :
    TR ι D (T.set d (some v)) nt (tmps.setIfInBounds d (ren ι v)) := by
  have hm := t.most
  have hp := deepT_pow
  unfold mostT at hm
  refine ⟨full_set t.full _ _, by simp [t.size], t.most, fun k u hk => ?_⟩
  rw [get_set t.full _ _ _ (by omega)] at hk
  split at hk
  · rename_i e
    subst e
    cases hk
    exact ⟨by simp [t.size, hd], hv⟩
  · rename_i e
    rw [Array.getElem?_setIfInBounds_ne (fun h => e h.symm)]
    exact t.all k u hk

theorem put_sound {ι : Emb} {D : Nat → Prop} {a a' : Ac} {ac : Act} (r : AR ι D a ac) {dst : Option Tmp} {v : Value} (hv : vok ι D v) (h : a.put dst v = .ok a') :
    AR ι D a' (ac.put dst (ren ι v)) := by
  cases dst with
  | none => simp only [Ac.put] at h; cases h; exact r
  | some d =>
    simp only [Ac.put] at h
    cases hb : Nat.ble (d + 1) a.nt with
    | false => rw [hb] at h; cases h
    | true =>
      rw [hb] at h
      simp only [putB] at h
      cases h
      have hd : d < a.nt := Nat.le_of_ble_eq_true hb
      exact ⟨r.t.set hd hv, r.d, r.o⟩

/-- What is said of the package-level variables' numbers. -/
def Globs (ι : Emb) (D : Nat → Prop) : Prop := ∀ g, g < globs → D g ∧ (ι g).blk = g ∧ (ι g).shift = 0

theorem evalO_sound {ι : Emb} {D : Nat → Prop} (g : Globs ι D) {a : Ac} {ac : Act} (r : TR ι D a.T a.nt ac.tmps) {x : Operand} {v : Value} (h : evalO a.T x = .ok v) :
    ac.eval x = ren ι v ∧ vok ι D v := by
  cases x with
  | tmp t =>
    simp only [evalO, tmpO] at h
    cases ht : a.T.get t with
    | none => rw [ht] at h; cases h
    | some u =>
      rw [ht] at h; cases h
      obtain ⟨h1, h2⟩ := r.all t v ht
      exact ⟨by simp [Act.eval, h1], h2⟩
  | const u =>
    simp only [evalO, constO] at h
    cases hs : shut u with
    | false => rw [hs] at h; cases h
    | true =>
      rw [hs] at h; cases h
      obtain ⟨h1, h2⟩ := vok_shut (ι := ι) (D := D) hs
      exact ⟨by rw [h1]; rfl, h2⟩
  | global k =>
    simp only [evalO] at h
    cases hb : Nat.ble (k + 1) globs with
    | false => rw [hb] at h; cases h
    | true =>
      rw [hb] at h
      simp only [globO] at h
      cases h
      have hk : k < globs := Nat.le_of_ble_eq_true hb
      obtain ⟨h1, h2, h3⟩ := g k hk
      simp only [Act.eval, ren, vok, renA, h2, h3]
      exact ⟨trivial, h1, trivial⟩
  | func f =>
    simp only [evalO] at h; cases h
    simp [Act.eval, ren, vok, renF, okF]

/-! ### Blocks -/

def renE (ι : Emb) (e : MapEntry) : MapEntry := { e with val := ren ι e.val }

/-- The cells of a block, as they lie in the machine's. -/
def cellsR (ι : Emb) (D : Nat → Prop) (cs : List Value) (e : Em) (c : Array Value) : Prop :=
  e.shift + cs.length ≤ e.limit ∧ e.limit ≤ c.size ∧ ∀ i v, cs[i]? = some v → c[e.shift + i]? = some (ren ι v) ∧ vok ι D v

structure LR (ι : Emb) (D : Nat → Prop) (r : Lp) (l : Loop) : Prop where
  st : l.state = r.st
  pend : l.pending = r.pend
  params : l.params.toList = r.params
  asg : l.assign = r.asg
  body : l.body = r.body
  defers : l.defers = (ι r.defers).blk
  dom : D r.defers
  t : TR ι D r.T r.nt l.tmps

def BR (ι : Emb) (D : Nat → Prop) (b : Blk) (e : Em) (w : World) : Prop :=
  match b with
  | .cells cs _ _ => ∃ c t, w.heap[e.blk]? = some (.cells c t (0, 0)) ∧ cellsR ι D cs e c
  | .ro cs => (∃ c t fz, w.heap[e.blk]? = some (.cells c t fz) ∧ cellsR ι D cs e c) ∧ e.limit = e.shift + cs.length
  | .view s => s = true → e.limit ≤ e.shift
  | .map es clock => w.heap[e.blk]? = some (.map (es.map (renE ι)).toArray clock) ∧ ∀ x ∈ es, vok ι D x.key ∧ ren ι x.key = x.key ∧ vok ι D x.val
  | .loop r => ∃ l, w.heap[e.blk]? = some (.loop l) ∧ LR ι D r l
  | .defs o => w.heap[e.blk]? = some (.deferred (if o then some [] else none))

/-- Is it a block that may be written? -/
def writes : Blk → Bool
  | .ro _ => false
  | .view _ => false
  | _ => true

/-- Two blocks of one family lie one over the other. -/
def kin (b b' : Blk) (e e' : Em) : Prop :=
  match b, b' with
  | .cells _ f s, .cells _ f' s' => f = f' ∧ s + e'.shift = s' + e.shift
  | _, _ => False

/-- A view, or something that lies in the machine's memory. -/
def lies : Blk → Bool
  | .view _ => false
  | _ => true

structure Rel (ι : Emb) (D : Nat → Prop) (σ : Mem) (w : World) : Prop where
  full : Full deep σ.h
  fullF : Full deep σ.fams
  glob : Globs ι D
  low : globs ≤ σ.next
  next : ∀ B, D B → B < σ.next
  live : ∀ B b, σ.h.get B = some b → D B ∧ BR ι D b (ι B) w
  inj : ∀ B B' b b', σ.h.get B = some b → σ.h.get B' = some b' → lies b = true → lies b' = true → (ι B).blk = (ι B').blk → B = B' ∨ kin b b' (ι B) (ι B')
  fam : ∀ B cs f s, σ.h.get B = some (.cells cs f s) → f < σ.next ∧ B ∈ family σ f
  exact : ∀ B cs f s, σ.h.get B = some (.cells cs f s) → σ.fams.get f = none → (ι B).limit = (ι B).shift + cs.length
  famN : ∀ f, σ.next ≤ f → σ.fams.get f = none
  bound : σ.next ≤ most

/-- One step of both: what is known stays known, what isn't reached stays as it is. -/
structure Go1 (ι : Emb) (D : Nat → Prop) (σ : Mem) (w : World) (ι' : Emb) (D' : Nat → Prop) (σ' : Mem) (w' : World) : Prop where
  ext : Ext ι D ι' D'
  fresh : ∀ B, D' B → D B ∨ σ.next ≤ B
  next : σ.next ≤ σ'.next
  size : w.heap.size ≤ w'.heap.size
  frame : ∀ b, b < w.heap.size → (∀ B blk, σ.h.get B = some blk → writes blk = true → (ι B).blk ≠ b) → w'.heap[b]? = w.heap[b]?
  range : ∀ B blk, σ'.h.get B = some blk → lies blk = true → w.heap.size ≤ (ι' B).blk ∨ ∃ B0 blk0, σ.h.get B0 = some blk0 ∧ lies blk0 = true ∧ (writes blk = true → writes blk0 = true) ∧ (ι B0).blk = (ι' B).blk
  live : ∀ B blk, σ'.h.get B = some blk → σ.next ≤ B ∨ ∃ b, σ.h.get B = some b
  fams : ∀ f, f < σ.next → (∀ B cs s, σ.h.get B ≠ some (.cells cs f s)) → σ'.fams.get f = σ.fams.get f ∧ ∀ B cs s, σ'.h.get B ≠ some (.cells cs f s)
  tape : w'.tape = w.tape
  os : w'.os = w.os
  output : w'.output = w.output

theorem Go1.refl (ι : Emb) (D : Nat → Prop) (σ : Mem) (w : World) : Go1 ι D σ w ι D σ w :=
  ⟨Ext.refl _ _, fun _ h => .inl h, Nat.le_refl _, Nat.le_refl _, fun _ _ _ => rfl, fun B b h hw => .inr ⟨B, b, h, hw, id, rfl⟩, fun B b h => .inr ⟨b, h⟩, fun _ _ h => ⟨rfl, h⟩, rfl, rfl, rfl⟩

theorem writes_lies {b : Blk} (h : writes b = true) : lies b = true := by cases b <;> simp_all [writes, lies]

theorem Go1.trans {ι ι' ι'' : Emb} {D D' D'' : Nat → Prop} {σ σ' σ'' : Mem} {w w' w'' : World} (h : Go1 ι D σ w ι' D' σ' w') (k : Go1 ι' D' σ' w' ι'' D'' σ'' w'') : Go1 ι D σ w ι'' D'' σ'' w'' where
  ext := h.ext.trans k.ext
  fresh B hB := by
    rcases k.fresh B hB with h1 | h1
    · exact h.fresh B h1
    · exact .inr (Nat.le_trans h.next h1)
  next := Nat.le_trans h.next k.next
  size := Nat.le_trans h.size k.size
  frame b hb hn := by
    rw [k.frame b (Nat.lt_of_lt_of_le hb h.size) ?_, h.frame b hb hn]
    intro B blk hB hw he
    rcases h.range B blk hB (writes_lies hw) with h1 | ⟨B0, b0, h1, _, h2, h3⟩
    · omega
    · exact hn B0 b0 h1 (h2 hw) (h3.trans he)
  range B blk hB hw := by
    rcases k.range B blk hB hw with h1 | ⟨B0, b0, h1, h2, h3, h4⟩
    · exact .inl (Nat.le_trans h.size h1)
    · rcases h.range B0 b0 h1 h2 with h5 | ⟨B1, b1, h5, h6, h7, h8⟩
      · exact .inl (by rw [← h4]; exact h5)
      · exact .inr ⟨B1, b1, h5, h6, fun hw => h7 (h3 hw), h8.trans h4⟩
  live B blk hB := by
    rcases k.live B blk hB with h1 | ⟨b, h1⟩
    · exact .inl (Nat.le_trans h.next h1)
    · exact h.live B b h1
  fams f hf hn := by
    obtain ⟨h1, h2⟩ := h.fams f hf hn
    obtain ⟨h3, h4⟩ := k.fams f (Nat.lt_of_lt_of_le hf h.next) h2
    exact ⟨h3.trans h1, h4⟩
  tape := k.tape.trans h.tape
  os := k.os.trans h.os
  output := k.output.trans h.output

/-- Only the tape's place has moved. -/
theorem Rel.drew {ι : Emb} {D : Nat → Prop} {σ : Mem} {w w' : World} (r : Rel ι D σ w) (h : w'.heap = w.heap) : Rel ι D σ w' :=
  ⟨r.full, r.fullF, r.glob, r.low, r.next, fun B b hB => ⟨(r.live B b hB).1, by have := (r.live B b hB).2; unfold BR at *; rw [h]; exact this⟩, r.inj, r.fam, r.exact, r.famN, r.bound⟩

/-- The types and functions at hand are the program's. -/
structure CxOk (cx : Cx) : Prop where
  info : ∀ t i, cx.info t = some i → cx.P.info? t = some i
  fn : ∀ f fn, cx.fn f = some fn → cx.P.funcs[f]? = some fn
  mixed : cx.P.follows .mixedOrders = true
  names : ∀ f fn, cx.fn f = some fn → (fn.name == "runtime.NumGoroutine") = false
  clone : ∀ f fn, cx.fn f = some fn → fn.body = none → fn.name = "maps.clone" → Extern.findNext fn = none ∧ Extern.find fn = some Extern.MapsClone.clone
  index : ∀ f fn, cx.fn f = some fn → fn.body = none → fn.name = "internal/bytealg.IndexByteString" → Extern.findNext fn = none ∧ Extern.find fn = some Extern.BytealgIndexByte.indexByte
  fields : ∀ t i fs, cx.info t = some i → cx.P.underlying t = some (.struct fs) → ∀ f ∈ fs, ∃ i, cx.P.info? f.type = some i

theorem und_sound {cx : Cx} (ok : CxOk cx) {t : TypeId} {d : TypeDesc} (h : cx.und t = some d) : cx.P.underlying t = some d := by
  unfold Cx.und at h
  cases hi : cx.info t with
  | none => rw [hi] at h; cases h
  | some i =>
    rw [hi] at h
    simp only [descOf] at h
    unfold Program.underlying
    rw [ok.info t i hi]
    obtain ⟨desc, _⟩ := i
    cases desc <;> simp only at h ⊢ <;> try (cases h; rfl)
    rename_i u
    cases hu : cx.info u with
    | none => rw [hu] at h; cases h
    | some j => rw [hu] at h; cases h; rw [ok.info u j hu]; rfl

theorem descOf_sound {cx : Cx} (ok : CxOk cx) {t : TypeId} {i : TypeInfo} {d : TypeDesc} (h : cx.info t = some i) (hd : descOf i cx.info = some d) : cx.P.underlying t = some d :=
  und_sound ok (by unfold Cx.und; rw [h]; exact hd)

end
end Go.VI
