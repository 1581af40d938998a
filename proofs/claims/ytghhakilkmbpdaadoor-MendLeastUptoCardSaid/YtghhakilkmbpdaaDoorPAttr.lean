/- Plain Lean, no program: names, as the machine takes them. -/
import Derived.Test.YtghhakilkmbpdaaDoorPChar
namespace Gm

/-- a byte of a name's character -/
theorem step_in {s : K} {c : Nat} (hc : s.st = .inTag ∧ c = 2 ∨ s.st = .attrName ∧ c = 3 ∨ s.st = .tagName ∧ c = 3) {x : UInt8} (hb : begins c (s.pend ++ [x]) = true) :
    s.step x = if whole (s.pend ++ [x]) then some (s.took (s.pend ++ [x])) else some { s with pend := s.pend ++ [x] } := by
  have hne : ∀ y t, s.st ≠ .endName (y :: t) := by rcases hc with ⟨h, _⟩ | ⟨h, _⟩ | ⟨h, _⟩ <;> rw [h] <;> simp
  have hcls : s.cls = some c := by rcases hc with ⟨h, rfl⟩ | ⟨h, rfl⟩ | ⟨h, rfl⟩ <;> simp [K.cls, h]
  by_cases hx : s.pend = [] ∧ x.toNat < 128
  · obtain ⟨hp, hx⟩ := hx
    rw [step_ascii hne hp hx]
    rw [hp, List.nil_append] at hb ⊢
    have hi : isC c x.toNat = true := by rw [← begins_ascii c x hx]; exact hb
    rw [(isC_ascii c x hi hx).2]
    rcases hc with ⟨h, rfl⟩ | ⟨h, rfl⟩ | ⟨h, rfl⟩ <;> simp [K.ascii, h, hi]
  · rw [step_pend hne hx, hcls]
    simp only [hb, if_true]

/-- a name's later bytes, from within it -/
theorem attr_more : ∀ (t a nm : Bs) (s : K), s.st = .attrName → s.attr = nm → s.pend = a → (a = [] ∨ begins 3 a = true ∧ whole a = false) → (nscan a 3 t).isSome = true →
    ∃ s', s.run t = some s' ∧ s'.rest = unlike (nm ++ a ++ t) s.had ++ [61, 34, 34, 47, 62] ++ closing s.opn ++ rl s.root := by
  intro t
  induction t with
  | nil =>
    intro a nm s hst hat hp _ _
    refine ⟨s, rfl, ?_⟩
    rw [rest_eq s (by rw [hst]; simp)]
    simp [K.within, K.left, hst, hat, hp]
  | cons x t ih =>
    intro a nm s hst hat hp hok hs
    simp only [nscan] at hs
    split at hs
    · rename_i hb
      have hstep := step_in (s := s) (c := 3) (.inr (.inl ⟨hst, rfl⟩)) (x := x) (by rw [hp]; exact hb)
      rw [hp] at hstep
      split at hs
      · rename_i hw
        rw [hw, if_pos rfl] at hstep
        obtain ⟨s', h1, h2⟩ := ih [] (nm ++ (a ++ [x])) (s.took (a ++ [x])) (by simp [K.took, hst]) (by simp [K.took, hst, hat]) (by simp [K.took, hst]) (.inl rfl) hs
        refine ⟨s', by simp only [K.run, hstep]; exact h1, ?_⟩
        rw [h2]
        simp [K.took, hst]
      · rename_i hw
        rw [if_neg hw] at hstep
        obtain ⟨s', h1, h2⟩ := ih (a ++ [x]) nm { s with pend := a ++ [x] } hst hat rfl (.inr ⟨hb, by simpa using hw⟩) hs
        refine ⟨s', by simp only [K.run, hstep]; exact h1, ?_⟩
        rw [h2]
        simp
    · cases hs

/-- the bytes end within a name, or right behind it -/
theorem attr_like : ∀ (t a : Bs) (s : K), s.st = .inTag → s.pend = a → (a = [] ∨ begins 2 a = true ∧ whole a = false) → a ++ t ≠ [] → (nscan a 2 t).isSome = true →
    ∃ s', s.run t = some s' ∧ s'.rest = unlike (a ++ t) s.had ++ [61, 34, 34, 47, 62] ++ closing s.opn ++ rl s.root := by
  intro t
  induction t with
  | nil =>
    intro a s hst hp _ hne _
    refine ⟨s, rfl, ?_⟩
    rw [rest_eq s (by rw [hst]; simp)]
    cases a with
    | nil => exact absurd rfl hne
    | cons y u => simp [K.within, K.left, hst, hp]
  | cons x t ih =>
    intro a s hst hp hok _ hs
    simp only [nscan] at hs
    split at hs
    · rename_i hb
      have hstep := step_in (s := s) (c := 2) (.inl ⟨hst, rfl⟩) (x := x) (by rw [hp]; exact hb)
      rw [hp] at hstep
      split at hs
      · rename_i hw
        rw [hw, if_pos rfl] at hstep
        obtain ⟨s', h1, h2⟩ := attr_more t [] (a ++ [x]) (s.took (a ++ [x])) (by simp [K.took, hst]) (by simp [K.took, hst]) (by simp [K.took, hst]) (.inl rfl) hs
        refine ⟨s', by simp only [K.run, hstep]; exact h1, ?_⟩
        rw [h2]
        simp [K.took, hst]
      · rename_i hw
        rw [if_neg hw] at hstep
        obtain ⟨s', h1, h2⟩ := ih (a ++ [x]) { s with pend := a ++ [x] } hst rfl (.inr ⟨hb, by simpa using hw⟩) (by simp) hs
        refine ⟨s', by simp only [K.run, hstep]; exact h1, ?_⟩
        rw [h2]
        simp
    · cases hs

/-- a whole character, scanned -/
theorem scan_char (c : Nat) : ∀ (t p q : Bs), charN c p t = .ok q → ∃ u v, t = u ++ v ∧ q = p ++ u ∧ nscan p c u = some ([], 3) := by
  intro t
  induction t with
  | nil => intro p q h; simp [charN] at h
  | cons x t ih =>
    intro p q h
    simp only [charN] at h
    split at h
    · rename_i hb
      split at h
      · rename_i hw
        simp only [CharRes.ok.injEq] at h
        exact ⟨[x], t, rfl, h.symm, by simp [nscan, hb, hw]⟩
      · rename_i hw
        obtain ⟨u, v, h1, h2, h3⟩ := ih _ _ h
        refine ⟨x :: u, v, by rw [h1]; rfl, by rw [h2]; simp, ?_⟩
        simp only [nscan, hb, if_true]
        rw [if_neg hw]
        exact h3
    · cases h
theorem scan_char0 {c : Nat} {t q : Bs} (h : charN c [] t = .ok q) : ∃ v, t = q ++ v ∧ nscan [] c q = some ([], 3) := by
  obtain ⟨u, v, h1, h2, h3⟩ := scan_char c t [] q h
  rw [List.nil_append] at h2
  subst h2
  exact ⟨v, h1, h3⟩
theorem char_first {c : Nat} {x : UInt8} {t q : Bs} (h : charN c [] (x :: t) = .ok q) : begins c [x] = true := by
  simp only [charN, List.nil_append] at h
  split at h
  · rename_i hb; exact hb
  · cases h
theorem char_ne {c : Nat} {t q : Bs} (h : charN c [] t = .ok q) : q ≠ [] := by
  have := ((charN_spec c t [] (.inl rfl)).1 q h).2.2.1
  rintro rfl
  simp at this

theorem takes_attr {s : K} (hs : s.st = .attrName ∨ s.st = .tagName) (hp : s.pend = []) {x : UInt8} (hb : begins 3 [x] = true) : Takes s 3 x := by
  refine ⟨by rcases hs with h | h <;> rw [h] <;> simp, hp, by rcases hs with h | h <;> simp [K.cls, h], fun hx => ?_⟩
  have hi : isC 3 x.toNat = true := by rw [← begins_ascii 3 x hx]; exact hb
  rcases hs with h | h <;> simp [K.ascii, h, hi]
theorem takes_inTag {s : K} (hs : s.st = .inTag) (hp : s.pend = []) {x : UInt8} (h1 : blank x = false) (h2 : x ≠ 47) (h3 : x ≠ 62) : Takes s 2 x := by
  refine ⟨by rw [hs]; simp, hp, by simp [K.cls, hs], fun hx => ?_⟩
  simp [K.ascii, hs, K.behind, h1, h2, h3]

/-- behind a name: neither of its characters goes on with x -/
theorem attr_end {s : K} (hst : s.st = .attrName) (hp : s.pend = []) {x : UInt8} (hb : begins 3 [x] = false) :
    s.step x = if s.attr ∈ s.had then none else if x = 61 then some { s with st := .equals, had := s.attr :: s.had } else if blank x then some { s with st := .attrEnd, had := s.attr :: s.had } else none := by
  have hne : ∀ y t, s.st ≠ .endName (y :: t) := by rw [hst]; simp
  by_cases hx : x.toNat < 128
  · rw [step_ascii hne hp hx]
    have hi : isC 3 x.toNat = false := by rw [← begins_ascii 3 x hx]; exact hb
    simp [K.ascii, hst, hi]
  · rw [step_pend hne (by simp [hx])]
    have h1 : ¬ x = 61 := by rintro rfl; simp at hx
    have h2 : blank x = false := by
      unfold blank
      simp only [decide_eq_false_iff_not, not_or]
      refine ⟨?_, ?_, ?_, ?_⟩ <;> (rintro rfl; simp at hx)
    simp only [K.cls, hst, hp, List.nil_append, hb]
    simp [h1, h2]
end Gm

/- Plain Lean, no program: an attribute behind its name, as the machine takes it. -/
namespace Gm

theorem blank_lt {x : UInt8} (h : blank x = true) : x.toNat < 128 ∧ x ≠ 61 ∧ x ≠ 34 ∧ x ≠ 39 ∧ x ≠ 47 ∧ x ≠ 62 := by
  unfold blank at h
  simp only [decide_eq_true_eq] at h
  rcases h with rfl | rfl | rfl | rfl <;> decide

/-- behind the equals sign -/
theorem equals_step {s : K} (hst : s.st = .equals) (hp : s.pend = []) (x : UInt8) : s.step x = if blank x then some s else if x = 34 ∨ x = 39 then some { s with st := .value x } else none := by
  by_cases hx : x.toNat < 128
  · rw [step_ascii (by rw [hst]; simp) hp hx]
    simp [K.ascii, hst]
  · rw [step_pend (by rw [hst]; simp) (by simp [hx])]
    have h2 : blank x = false := by
      cases h : blank x with
      | false => rfl
      | true => exact absurd (blank_lt h).1 hx
    have h1 : ¬ (x = 34 ∨ x = 39) := by rintro (rfl | rfl) <;> simp at hx
    simp [K.cls, hst, h1, h2]
theorem equals_rest {s : K} (hst : s.st = .equals) (hp : s.pend = []) : s.rest = [34, 34, 47, 62] ++ closing s.opn ++ rl s.root := by
  rw [rest_eq s (by rw [hst]; simp)]
  simp [K.within, K.left, hst]

theorem attrEnd_step {s : K} (hst : s.st = .attrEnd) (hp : s.pend = []) (x : UInt8) : s.step x = if blank x then some s else if x = 61 then some { s with st := .equals } else none := by
  by_cases hx : x.toNat < 128
  · rw [step_ascii (by rw [hst]; simp) hp hx]
    simp [K.ascii, hst]
  · rw [step_pend (by rw [hst]; simp) (by simp [hx])]
    have h2 : blank x = false := by
      cases h : blank x with
      | false => rfl
      | true => exact absurd (blank_lt h).1 hx
    have h1 : ¬ x = 61 := by rintro rfl; simp at hx
    simp [K.cls, hst, h1, h2]
theorem attrEnd_rest {s : K} (hst : s.st = .attrEnd) (hp : s.pend = []) : s.rest = [61, 34, 34, 47, 62] ++ closing s.opn ++ rl s.root := by
  rw [rest_eq s (by rw [hst]; simp)]
  simp [K.within, K.left, hst]

/-- within a value -/
theorem value_rest {s : K} {y : UInt8} (hst : s.st = .value y) (hp : s.pend = []) : s.rest = [y, 47, 62] ++ closing s.opn ++ rl s.root := by
  rw [rest_eq s (by rw [hst]; simp)]
  simp [K.within, K.left, hst, hp]
theorem value_cut {s : K} {y : UInt8} (hst : s.st = .value y) {q : Bs} (hq : q ≠ []) : ({ s with pend := q } : K).rest = compl 0 q ++ [y, 47, 62] ++ closing s.opn ++ rl s.root := by
  rw [rest_eq _ (by rw [hst]; simp)]
  cases q with
  | nil => exact absurd rfl hq
  | cons a t => simp [K.within, K.left, K.cls, hst]
theorem value_took {s : K} {y : UInt8} (hst : s.st = .value y) (hp : s.pend = []) (q : Bs) : s.took q = s := by
  obtain ⟨st, pend, opn, root, name, had, attr⟩ := s
  simp only at hst hp
  subst hst hp
  rfl
theorem value_quote {s : K} {y : UInt8} (hst : s.st = .value y) (hp : s.pend = []) (hy : y = 34 ∨ y = 39) : s.step y = some { s with st := .valued } := by
  rw [step_ascii (by rw [hst]; simp) hp (by rcases hy with rfl | rfl <;> decide)]
  simp [K.ascii, hst]
theorem value_less {s : K} {y : UInt8} (hst : s.st = .value y) (hp : s.pend = []) (hy : y = 34 ∨ y = 39) : s.step 60 = none := by
  rw [step_ascii (by rw [hst]; simp) hp (by decide)]
  rcases hy with rfl | rfl <;> simp [K.ascii, hst]
theorem value_amp {s : K} {y : UInt8} (hst : s.st = .value y) (hp : s.pend = []) (hy : y = 34 ∨ y = 39) : s.step 38 = some { s with st := .named (some y) [] } := by
  rw [step_ascii (by rw [hst]; simp) hp (by decide)]
  rcases hy with rfl | rfl <;> simp [K.ascii, hst]
theorem value_takes {s : K} {y : UInt8} (hst : s.st = .value y) (hp : s.pend = []) {x : UInt8} (h1 : x ≠ y) (h2 : x ≠ 60) (h3 : x ≠ 38) : Takes s 0 x := by
  refine ⟨by rw [hst]; simp, hp, by simp [K.cls, hst], fun hx => ?_⟩
  rw [value_took hst hp]
  simp [K.ascii, hst, h1, h2, h3]
end Gm
