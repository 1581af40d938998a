/- Plain Lean, no program: a character of a class at the front of bytes; what the machine makes of it. -/
import Derived.Test.YtghhakilkmbpdaaDoorPDoc
namespace Gm

inductive CharRes
  | ok (q : Bs)
  | bad (k : Nat)
  | short (q : Bs)

def charN (c : Nat) : Bs → Bs → CharRes
  | p, [] => .short p
  | p, x :: t => if begins c (p ++ [x]) then (if whole (p ++ [x]) then .ok (p ++ [x]) else charN c (p ++ [x]) t) else .bad p.length

/-- what it tells -/
theorem charN_spec (c : Nat) : ∀ (t p : Bs), (p = [] ∨ begins c p = true ∧ whole p = false) →
    (∀ q, charN c p t = .ok q → begins c q = true ∧ whole q = true ∧ p.length < q.length ∧ q <+: p ++ t) ∧
    (∀ k, charN c p t = .bad k → p.length ≤ k ∧ k < (p ++ t).length ∧ ((p ++ t).take k = [] ∨ begins c ((p ++ t).take k) = true ∧ whole ((p ++ t).take k) = false) ∧ begins c ((p ++ t).take (k + 1)) = false) ∧
    (∀ q, charN c p t = .short q → q = p ++ t ∧ (q = [] ∨ begins c q = true ∧ whole q = false)) := by
  intro t
  induction t with
  | nil =>
    intro p hp
    refine ⟨fun q h => by simp [charN] at h, fun k h => by simp [charN] at h, fun q h => ?_⟩
    simp only [charN, CharRes.short.injEq] at h
    subst h
    exact ⟨by simp, hp⟩
  | cons x t ih =>
    intro p hp
    have e : p ++ x :: t = (p ++ [x]) ++ t := by simp
    cases hb : begins c (p ++ [x]) with
    | false =>
      refine ⟨fun q h => ?_, fun k h => ?_, fun q h => ?_⟩
      · simp only [charN, hb] at h; cases h
      · simp only [charN, hb, Bool.false_eq_true, if_false, CharRes.bad.injEq] at h
        subst h
        refine ⟨Nat.le_refl _, by simp, by simpa using hp, ?_⟩
        rw [e, List.take_append_of_le_length (by simp)]
        rw [List.take_of_length_le (by simp)]
        exact hb
      · simp only [charN, hb] at h; cases h
    | true =>
      cases hw : whole (p ++ [x]) with
      | true =>
        refine ⟨fun q h => ?_, fun k h => ?_, fun q h => ?_⟩
        · simp only [charN, hb, hw, if_true, CharRes.ok.injEq] at h
          subst h
          exact ⟨hb, hw, by simp, by rw [e]; exact List.prefix_append _ _⟩
        · simp only [charN, hb, hw, if_true] at h; cases h
        · simp only [charN, hb, hw, if_true] at h; cases h
      | false =>
        obtain ⟨a, b, d⟩ := ih (p ++ [x]) (.inr ⟨hb, hw⟩)
        have e2 : charN c p (x :: t) = charN c (p ++ [x]) t := by simp [charN, hb, hw]
        rw [e2, e]
        refine ⟨fun q h => ?_, fun k h => ?_, d⟩
        · obtain ⟨h1, h2, h3, h4⟩ := a q h
          exact ⟨h1, h2, by simp at h3; omega, h4⟩
        · obtain ⟨h1, h2⟩ := b k h
          exact ⟨by simp at h1; omega, h2⟩

/-- a state that takes characters of class c here -/
structure Takes (s : K) (c : Nat) (x : UInt8) : Prop where
  st : ∀ y t, s.st ≠ .endName (y :: t)
  pend : s.pend = []
  cls : s.cls = some c
  asc : x.toNat < 128 → s.ascii x = if isC c x.toNat then some (s.took [x]) else none

theorem took_pend (s : K) (p q : Bs) : ({ s with pend := p } : K).took q = s.took q := by
  obtain ⟨st, pend, opn, root, name, had, attr⟩ := s
  cases st <;> rfl

theorem takes_more {s : K} {c : Nat} (hst : ∀ y t, s.st ≠ .endName (y :: t)) (hc : s.cls = some c) : ∀ (t p : Bs), begins c p = true → whole p = false →
    (∀ q, charN c p t = .ok q → ∃ u, q = p ++ u ∧ ({ s with pend := p } : K).run u = some (s.took q)) ∧
    (∀ k, charN c p t = .bad k → ∃ u x v, p ++ t = p ++ u ++ x :: v ∧ k = p.length + u.length ∧ ∃ s', ({ s with pend := p } : K).run u = some s' ∧ s'.step x = none) ∧
    (∀ q, charN c p t = .short q → ({ s with pend := p } : K).run t = some { s with pend := q }) := by
  intro t
  induction t with
  | nil =>
    intro p hb hw
    refine ⟨fun q h => by simp [charN] at h, fun k h => by simp [charN] at h, fun q h => ?_⟩
    simp only [charN, CharRes.short.injEq] at h
    subst h
    rfl
  | cons x t ih =>
    intro p hb hw
    have hpn := begins_ne hb
    have hstep : ({ s with pend := p } : K).step x = if begins c (p ++ [x]) then (if whole (p ++ [x]) then some (s.took (p ++ [x])) else some { s with pend := p ++ [x] }) else none := by
      rw [step_pend (s := { s with pend := p }) hst (by simp [hpn])]
      have : ({ s with pend := p } : K).cls = some c := hc
      rw [this]
      simp only [took_pend]
    cases hb' : begins c (p ++ [x]) with
    | false =>
      rw [hb'] at hstep
      refine ⟨fun q h => ?_, fun k h => ?_, fun q h => ?_⟩
      · simp only [charN, hb'] at h; cases h
      · simp only [charN, hb', Bool.false_eq_true, if_false, CharRes.bad.injEq] at h
        subst h
        exact ⟨[], x, t, by simp, by simp, _, rfl, by simpa using hstep⟩
      · simp only [charN, hb'] at h; cases h
    | true =>
      cases hw' : whole (p ++ [x]) with
      | true =>
        rw [hb', hw'] at hstep
        refine ⟨fun q h => ?_, fun k h => ?_, fun q h => ?_⟩
        · simp only [charN, hb', hw', if_true, CharRes.ok.injEq] at h
          subst h
          refine ⟨[x], rfl, ?_⟩
          simp only [K.run]
          rw [hstep]
          rfl
        · simp only [charN, hb', hw', if_true] at h; cases h
        · simp only [charN, hb', hw', if_true] at h; cases h
      | false =>
        rw [hb', hw'] at hstep
        have hstep : ({ s with pend := p } : K).step x = some { s with pend := p ++ [x] } := by simpa using hstep
        obtain ⟨a, b, d⟩ := ih (p ++ [x]) hb' hw'
        have e2 : charN c p (x :: t) = charN c (p ++ [x]) t := by simp [charN, hb', hw']
        rw [e2]
        refine ⟨fun q h => ?_, fun k h => ?_, fun q h => ?_⟩
        · obtain ⟨u, h1, h2⟩ := a q h
          refine ⟨x :: u, by rw [h1]; simp, ?_⟩
          simp only [K.run]
          rw [hstep]
          exact h2
        · obtain ⟨u, y, v, h1, h2, s', h3, h4⟩ := b k h
          refine ⟨x :: u, y, v, by simpa using h1, by rw [h2]; simp; omega, s', ?_, h4⟩
          simp only [K.run]
          rw [hstep]
          exact h3
        · have := d q h
          simp only [K.run]
          rw [hstep]
          exact this

/-- from between characters -/
theorem takes_char {s : K} {c : Nat} {x : UInt8} {t : Bs} (h : Takes s c x) :
    (∀ q, charN c [] (x :: t) = .ok q → ∃ v, x :: t = q ++ v ∧ s.run q = some (s.took q)) ∧
    (∀ k, charN c [] (x :: t) = .bad k → ∃ u y v, x :: t = u ++ y :: v ∧ k = u.length ∧ ∃ s', s.run u = some s' ∧ s'.step y = none) ∧
    (∀ q, charN c [] (x :: t) = .short q → q = x :: t ∧ s.run (x :: t) = some { s with pend := q }) := by
  obtain ⟨hst, hp, hc, ha⟩ := h
  have hstep : s.step x = if begins c [x] then (if whole [x] then some (s.took [x]) else some { s with pend := [x] }) else none := by
    by_cases hx : x.toNat < 128
    · rw [step_ascii hst hp hx, ha hx, begins_ascii c x hx]
      split
      · rename_i hcx
        rw [(isC_ascii c x hcx hx).2]
        rfl
      · rfl
    · rw [step_pend hst (by simp [hx]), hc, hp]
      rfl
  cases hb : begins c [x] with
  | false =>
    rw [hb] at hstep
    refine ⟨fun q h => ?_, fun k h => ?_, fun q h => ?_⟩
    · simp only [charN, List.nil_append, hb] at h; cases h
    · simp only [charN, List.nil_append, hb, Bool.false_eq_true, if_false, List.length_nil, CharRes.bad.injEq] at h
      subst h
      exact ⟨[], x, t, rfl, rfl, s, rfl, by simpa using hstep⟩
    · simp only [charN, List.nil_append, hb] at h; cases h
  | true =>
    cases hw : whole [x] with
    | true =>
      rw [hb, hw] at hstep
      refine ⟨fun q h => ?_, fun k h => ?_, fun q h => ?_⟩
      · simp only [charN, List.nil_append, hb, hw, if_true, CharRes.ok.injEq] at h
        subst h
        exact ⟨t, rfl, by simp only [K.run]; rw [hstep]; rfl⟩
      · simp only [charN, List.nil_append, hb, hw, if_true] at h; cases h
      · simp only [charN, List.nil_append, hb, hw, if_true] at h; cases h
    | false =>
      rw [hb, hw] at hstep
      have hstep : s.step x = some { s with pend := [x] } := by simpa using hstep
      obtain ⟨a, b, d⟩ := takes_more hst hc t [x] hb hw
      have e2 : charN c [] (x :: t) = charN c [x] t := by simp [charN, hb, hw]
      rw [e2]
      refine ⟨fun q h => ?_, fun k h => ?_, fun q h => ?_⟩
      · obtain ⟨u, h1, h2⟩ := a q h
        obtain ⟨_, _, _, v, hv⟩ := (charN_spec c t [x] (.inr ⟨hb, hw⟩)).1 q h
        refine ⟨v, by simpa using hv.symm, ?_⟩
        rw [h1] at h2 ⊢
        simp only [List.cons_append, List.nil_append, K.run]
        rw [hstep]
        exact h2
      · obtain ⟨u, y, v, h1, h2, s', h3, h4⟩ := b k h
        refine ⟨x :: u, y, v, by simpa using h1, by rw [h2]; simp; omega, s', ?_, h4⟩
        simp only [K.run]
        rw [hstep]
        exact h3
      · refine ⟨((charN_spec c t [x] (.inr ⟨hb, hw⟩)).2.2 q h).1, ?_⟩
        simp only [K.run]
        rw [hstep]
        exact d q h
end Gm
