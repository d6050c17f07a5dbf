/-
  VI: a region's operations, numbered, and who comes behind whom.
-/
import Derived.Test.YtkfdjlhjeclcbaaGreatDoorViDcode
namespace Go.VI
open Go
noncomputable section

theorem bit_eq (n i : Nat) : bit n i = n.testBit i := by
  unfold bit
  rw [Nat.testBit_eq_decide_div_mod_eq, Nat.shiftRight_eq_div_pow, Bool.eq_iff_iff]
  simp

theorem bit_or (a b i : Nat) : bit (a ||| b) i = (bit a i || bit b i) := by
  rw [bit_eq, bit_eq, bit_eq, Nat.testBit_or]

theorem bit_two (e i : Nat) : bit (2 ^ e) i = decide (e = i) := by
  rw [bit_eq, Nat.testBit_two_pow]

theorem bit_zero (i : Nat) : bit 0 i = false := by
  rw [bit_eq, Nat.zero_testBit]

theorem bit_sub {d a : Nat} (h : Nat.beq (d &&& a) a = true) {k : Nat} (hk : bit a k = true) : bit d k = true := by
  have h := Nat.eq_of_beq_eq_true h
  rw [bit_eq] at hk ⊢
  have := congrArg (Nat.testBit · k) h
  simp only [Nat.testBit_and, hk, Bool.and_true] at this
  exact this

theorem anc_ok (acc : List Nat) : ∀ (es : List Nat) (s k : Nat), bit (ancOf acc es s) k = true → bit s k = true ∨ ∃ e ∈ es, k = e ∨ bit (nth acc e) k = true
  | [], s, k, h => .inl h
  | e :: r, s, k, h => by
    simp only [ancOf] at h
    rcases anc_ok acc r _ k h with h1 | ⟨e', h1, h2⟩
    · rw [bit_or, bit_or, bit_two] at h1
      simp only [Bool.or_eq_true, decide_eq_true_eq] at h1
      rcases h1 with (h1 | h1) | h1
      · exact .inl h1
      · exact .inr ⟨e, by simp, .inl h1.symm⟩
      · exact .inr ⟨e, by simp, .inr h1⟩
    · exact .inr ⟨e', by simp [h1], h2⟩

theorem nth_append (a : Nat) : ∀ (acc : List Nat) (e : Nat), nth (acc ++ [a]) e = if e < acc.length then nth acc e else if e = acc.length then a else 0
  | [], e => by
    cases e with
    | zero => simp [nth]
    | succ e => simp [nth]
  | b :: r, e => by
    cases e with
    | zero => simp [nth]
    | succ e =>
      have := nth_append a r e
      simp only [List.cons_append, nth, this, List.length_cons]
      by_cases h1 : e < r.length
      · rw [if_pos h1, if_pos (by omega)]
      · by_cases h2 : e = r.length
        · rw [if_neg h1, if_pos h2, if_neg (by omega), if_pos (by omega)]
        · rw [if_neg h1, if_neg h2, if_neg (by omega), if_neg (by omega)]

theorem number_mem : ∀ (os : List Oper) (i : Nat) (acc : List Nat) (p : No), p ∈ number os i acc → ∃ j, os[j]? = some p.o ∧ p.i = i + j
  | [], i, acc, p, h => by simp [number] at h
  | o :: r, i, acc, p, h => by
    simp only [number, List.mem_cons] at h
    rcases h with rfl | h
    · exact ⟨0, by simp, by simp⟩
    · obtain ⟨j, h1, h2⟩ := number_mem r (i + 1) _ p h
      exact ⟨j + 1, by simpa using h1, by omega⟩

theorem number_has : ∀ (os : List Oper) (i : Nat) (acc : List Nat) (j : Nat) (o : Oper), os[j]? = some o → ∃ p ∈ number os i acc, p.i = i + j ∧ p.o = o
  | [], i, acc, j, o, h => by simp at h
  | o' :: r, i, acc, j, o, h => by
    simp only [number]
    cases j with
    | zero =>
      simp only [List.getElem?_cons_zero, Option.some.injEq] at h
      exact ⟨_, List.mem_cons_self .., rfl, h⟩
    | succ j =>
      obtain ⟨p, h1, h2, h3⟩ := number_has r (i + 1) (acc ++ [ancOf acc (edgesL o'.after.toList) 0]) j o (by simpa using h)
      exact ⟨p, List.mem_cons_of_mem _ h1, by omega, h3⟩

theorem number_uniq : ∀ (os : List Oper) (i : Nat) (acc : List Nat) (p q : No), p ∈ number os i acc → q ∈ number os i acc → p.i = q.i → p = q
  | [], i, acc, p, q, h, _, _ => by simp [number] at h
  | o :: r, i, acc, p, q, h, h', he => by
    simp only [number, List.mem_cons] at h h'
    rcases h with rfl | h <;> rcases h' with rfl | h'
    · rfl
    · obtain ⟨j, _, h2⟩ := number_mem r (i + 1) _ q h'
      simp only at he
      omega
    · obtain ⟨j, _, h2⟩ := number_mem r (i + 1) _ p h
      simp only at he
      omega
    · exact number_uniq r (i + 1) _ p q h h' he

theorem number_anc : ∀ (os : List Oper) (i : Nat) (acc : List Nat), acc.length = i → ∀ p ∈ number os i acc, ∀ k, bit p.anc k = true →
    ∃ e ∈ edgesL p.o.after.toList, k = e ∨ (∃ q ∈ number os i acc, q.i = e ∧ bit q.anc k = true) ∨ (e < i ∧ bit (nth acc e) k = true)
  | [], i, acc, _, p, h, k, _ => by simp [number] at h
  | o :: r, i, acc, hl, p, h, k, hk => by
    simp only [number, List.mem_cons] at h
    rcases h with rfl | h
    · simp only at hk
      rcases anc_ok acc _ 0 k hk with h1 | ⟨e, h1, h2⟩
      · rw [bit_zero] at h1; cases h1
      · refine ⟨e, h1, h2.imp id fun h2 => .inr ⟨?_, h2⟩⟩
        refine Decidable.byContradiction fun hn => ?_
        have hz : ∀ (acc : List Nat) (e : Nat), acc.length ≤ e → nth acc e = 0 := by
          intro acc
          induction acc with
          | nil => intro e _; rfl
          | cons b r ih => intro e he; cases e with
            | zero => simp at he
            | succ e => exact ih e (by simpa using he)
        rw [hz acc e (by omega), bit_zero] at h2
        cases h2
    · obtain ⟨e, h1, h2⟩ := number_anc r (i + 1) (acc ++ [ancOf acc (edgesL o.after.toList) 0]) (by simp [hl]) p h k hk
      refine ⟨e, h1, h2.imp id fun h2 => ?_⟩
      rcases h2 with ⟨q, q1, q2⟩ | ⟨q1, q2⟩
      · exact .inl ⟨q, by simp only [number, List.mem_cons]; exact .inr q1, q2⟩
      · rw [nth_append] at q2
        split at q2
        · rename_i hlt; exact .inr ⟨by omega, q2⟩
        · split at q2
          · rename_i hn he
            refine .inl ⟨_, by simp only [number]; exact List.mem_cons_self .., ?_, q2⟩
            simp only
            omega
          · rw [bit_zero] at q2; cases q2

/-- Whoever a ready one must come behind is listed. -/
theorem anc_closed {os : List Oper} {s : Nat → Prop} (hs : ∀ q ∈ number os 0 [], s q.i → ∀ k, bit q.anc k = true → s k) {p : No} (hp : p ∈ number os 0 []) (he : ∀ e ∈ edgesL p.o.after.toList, s e) {k : Nat} (hk : bit p.anc k = true) : s k := by
  obtain ⟨e, h1, h2 | ⟨q, h2, h3, h4⟩ | ⟨h2, _⟩⟩ := number_anc os 0 [] rfl p hp k hk
  · rw [h2]; exact he e h1
  · exact hs q h2 (by rw [h3]; exact he e h1) k h4
  · omega

theorem edges_ok : ∀ (es : List Edge) (e : Nat), e ∈ edgesL es ↔ ∃ x ∈ es, Region.binds .any x = true ∧ x.on = e
  | [], e => by simp [edgesL]
  | x :: r, e => by
    simp only [edgesL]
    have ih := edges_ok r e
    have hb : edgeOn x = if Region.binds .any x = true then some x.on else none := by
      unfold edgeOn Region.binds
      cases x.ground <;> rfl
    rw [hb]
    split
    · rename_i k hk
      split at hk
      · rename_i h1
        cases hk
        simp only [List.mem_cons, ih]
        constructor
        · rintro (h | ⟨y, h2, h3, h4⟩)
          · exact ⟨x, .inl rfl, h1, h.symm⟩
          · exact ⟨y, .inr h2, h3, h4⟩
        · rintro ⟨y, rfl | h2, h3, h4⟩
          · exact .inl h4.symm
          · exact .inr ⟨y, h2, h3, h4⟩
      · cases hk
    · rename_i hk
      split at hk
      · cases hk
      · rename_i h1
        rw [ih]
        constructor
        · rintro ⟨y, h2, h3, h4⟩
          exact ⟨y, List.mem_cons_of_mem _ h2, h3, h4⟩
        · rintro ⟨y, h2, h3, h4⟩
          rcases List.mem_cons.1 h2 with rfl | h2
          · exact absurd h3 h1
          · exact ⟨y, h2, h3, h4⟩

/-- The places that a region writes are each one's own. -/
theorem has_ok {k : Nat} : ∀ {l : List Nat}, has k l = true ↔ k ∈ l
  | [] => by simp [has]
  | a :: r => by
    simp only [has, List.mem_cons]
    split
    · rename_i h; have := beq_eq h; simp [this]
    · rename_i h
      rw [has_ok]
      constructor
      · exact .inr
      · rintro (h1 | h1)
        · subst h1; rw [Nat.beq_refl] at h; cases h
        · exact h1

theorem dstOnce_ok : ∀ (os : List Oper) (seen : List Nat), dstOnce os seen = true → (∀ (i : Nat) (o : Oper) (d : Nat), os[i]? = some o → o.dst = some d → d ∉ seen) ∧
    ∀ (i j : Nat) (o o' : Oper) (d : Nat), os[i]? = some o → os[j]? = some o' → o.dst = some d → o'.dst = some d → i = j
  | [], seen, _ => ⟨fun i o d h => by simp at h, fun i j o o' d h => by simp at h⟩
  | x :: r, seen, h => by
    simp only [dstOnce] at h
    cases hd : x.dst with
    | none =>
      rw [hd] at h
      obtain ⟨h1, h2⟩ := dstOnce_ok r seen h
      refine ⟨fun i o d hi ho => ?_, fun i j o o' d hi hj ho ho' => ?_⟩
      · cases i with
        | zero => simp at hi; subst hi; rw [hd] at ho; cases ho
        | succ i => exact h1 i o d (by simpa using hi) ho
      · cases i with
        | zero => simp at hi; subst hi; rw [hd] at ho; cases ho
        | succ i => cases j with
          | zero => simp at hj; subst hj; rw [hd] at ho'; cases ho'
          | succ j => exact congrArg (· + 1) (h2 i j o o' d (by simpa using hi) (by simpa using hj) ho ho')
    | some d₀ =>
      rw [hd] at h
      obtain ⟨h0, h⟩ := and_true h
      obtain ⟨h1, h2⟩ := dstOnce_ok r (d₀ :: seen) h
      have hns : d₀ ∉ seen := fun hm => by rw [has_ok.2 hm] at h0; cases h0
      refine ⟨fun i o d hi ho => ?_, fun i j o o' d hi hj ho ho' => ?_⟩
      · cases i with
        | zero => simp at hi; subst hi; rw [hd] at ho; cases ho; exact hns
        | succ i => exact fun hm => h1 i o d (by simpa using hi) ho (List.mem_cons_of_mem _ hm)
      · cases i with
        | zero =>
          simp at hi
          subst hi
          rw [hd] at ho
          cases ho
          cases j with
          | zero => rfl
          | succ j => exact absurd (List.mem_cons_self ..) (h1 j o' d₀ (by simpa using hj) ho')
        | succ i => cases j with
          | zero =>
            simp at hj
            subst hj
            rw [hd] at ho'
            cases ho'
            exact absurd (List.mem_cons_self ..) (h1 i o d₀ (by simpa using hi) ho)
          | succ j => exact congrArg (· + 1) (h2 i j o o' d (by simpa using hi) (by simpa using hj) ho ho')

theorem lookOk_ok {ts : List Tmp} {i anc : Nat} : ∀ {l : List No}, lookOk ts i anc l = true → ∀ q ∈ l, ∀ d, q.o.dst = some d → d ∈ ts → i = q.i ∨ bit anc q.i = true ∨ bit q.anc i = true
  | [], _, q, h => by simp at h
  | p :: r, h, q, hq => by
    simp only [lookOk] at h
    obtain ⟨h1, h2⟩ := and_true h
    rcases List.mem_cons.1 hq with rfl | hq
    · intro d hd hm
      rw [hd] at h1
      simp only [has_ok.2 hm, Bool.not_true, Bool.false_or, Bool.or_eq_true] at h1
      rcases h1 with (h1 | h1) | h1
      · exact .inl (beq_eq h1)
      · exact .inr (.inl h1)
      · exact .inr (.inr h1)
    · exact lookOk_ok h2 q hq

theorem regionOk_ok {ops : List Oper} {l : List No} : ∀ {l' : List No}, regionOkL ops l l' = true → ∀ p ∈ l', ∀ q ∈ l, ∀ d, q.o.dst = some d → d ∈ tmpsOf ops p.o → p.i = q.i ∨ bit p.anc q.i = true ∨ bit q.anc p.i = true
  | [], _, p, h => by simp at h
  | x :: r, h, p, hp => by
    simp only [regionOkL] at h
    obtain ⟨h1, h2⟩ := and_true h
    obtain ⟨h1, _⟩ := and_true h1
    obtain ⟨_, h3⟩ := and_true h1
    rcases List.mem_cons.1 hp with rfl | hp
    · exact lookOk_ok h3
    · exact regionOk_ok h2 p hp

end
end Go.VI
