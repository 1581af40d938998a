/- Plain Lean, no program: each step of the machine, held against what ends the state ahead of it and the one behind it. -/
import Derived.Test.YtghhakilkmbpdaaDoorPMachL
namespace Gm

def rl (root : Bool) : Bs := if !root then [60, 65, 47, 62] else []
theorem rest_eq (s : K) (h : s.st ≠ .less) : s.rest = s.within ++ closing s.left ++ rl s.root := by
  obtain ⟨st, pend, opn, root, name, had, attr⟩ := s
  cases st <;> simp_all [K.rest, K.rootless, rl]

theorem toCome_pos {c : Nat} {p : Bs} (h : begins c p = true) (hw : whole p = false) : 1 ≤ toCome p := by
  rcases Nat.eq_zero_or_pos (toCome p) with e | e
  · rw [(toCome_zero h).1 e] at hw; cases hw
  · exact e

/-- names: one byte more -/
theorem unlike_step {had : List Bs} {nm : Bs} {x : UInt8} {p p' : Bs} {c c' : Nat} (h : nscan [] 2 nm = some (p, c)) (hp : p ≠ [] ∨ c = 3)
    (h' : nscan [] 2 (nm ++ [x]) = some (p', c')) (hp' : p' ≠ [] ∨ c' = 3) : SL (unlike nm had) (x :: unlike (nm ++ [x]) had) := by
  obtain ⟨⟨a, b⟩, _⟩ := unlike_spec had (nm ++ [x]) p' c' h' hp'
  have e : ∀ t : Bs, nm ++ x :: t = (nm ++ [x]) ++ t := fun t => by simp
  refine (unlike_spec had nm p c h hp).2 _ ?_ ?_
  · rw [e]; exact a
  · rw [e]; exact b
theorem unlike_cons {had : List Bs} {nm : Bs} {p : Bs} {c : Nat} (h : nscan [] 2 nm = some (p, c)) (hp : p ≠ [] ∨ c = 3) {y : UInt8} {t : Bs} (hu : unlike nm had = y :: t) :
    ∃ p' c', nscan p c [y] = some (p', c') ∧ nscan [] 2 (nm ++ [y]) = some (p', c') ∧ (p' ≠ [] ∨ c' = 3) ∧ unlike (nm ++ [y]) had = t := by
  obtain ⟨⟨a, b⟩, l⟩ := unlike_spec had nm p c h hp
  rw [hu] at a b l
  have e : ∀ t : Bs, nm ++ y :: t = (nm ++ [y]) ++ t := fun t => by simp
  rw [e] at a b
  have a0 := a
  rw [nscan_append] at a0
  cases hq : nscan [] 2 (nm ++ [y]) with
  | none => rw [hq] at a0; cases a0
  | some q =>
    obtain ⟨p', c'⟩ := q
    have hq2 : nscan p c [y] = some (p', c') := by
      rw [nscan_append, h] at hq
      exact hq
    have hp' : p' ≠ [] ∨ c' = 3 := by
      simp only [nscan] at hq2
      split at hq2
      · split at hq2
        · simp only [Option.some.injEq, Prod.mk.injEq] at hq2; exact .inr hq2.2.symm
        · simp only [Option.some.injEq, Prod.mk.injEq] at hq2; exact .inl (by rw [← hq2.1]; simp)
      · cases hq2
    refine ⟨p', c', hq2, rfl, hp', ?_⟩
    obtain ⟨⟨a', b'⟩, l'⟩ := unlike_spec had (nm ++ [y]) p' c' hq hp'
    exact SL.antisymm (l' t a b) (SL.cons_inv (x := y) (l (y :: unlike (nm ++ [y]) had) (by rw [e]; exact a') (by rw [e]; exact b')))

/-- a name that doesn't stand wants nothing -/
theorem unlike_nil {had : List Bs} {nm : Bs} (h : nscan [] 2 nm = some ([], 3)) (hn : nm ∉ had) : unlike nm had = [] := by
  have := (unlike_spec had nm [] 3 h (.inr rfl)).2 [] (by simpa using h) (by simpa using hn)
  rcases this with h | ⟨h, _⟩
  · simp at h
  · exact List.length_eq_zero_iff.1 (by simpa using h)

/-- a byte of a character that has begun, or that begins one beyond ASCII -/
theorem pend_step {s : K} (h : s.ok) {x : UInt8} {c : Nat} (hc : s.cls = some c) (hb : begins c (s.pend ++ [x]) = true) (hx : s.pend = [] → 128 ≤ x.toNat) :
    (whole (s.pend ++ [x]) = true → (s.took (s.pend ++ [x])).ok ∧ SL s.rest (x :: (s.took (s.pend ++ [x])).rest)) ∧
    (whole (s.pend ++ [x]) = false → ({ s with pend := s.pend ++ [x] } : K).ok ∧ SL s.rest (x :: ({ s with pend := s.pend ++ [x] } : K).rest)) := by
  have hpc : s.pend ≠ [] → begins c s.pend = true ∧ whole s.pend = false := fun hp => begins_front hp hb
  have hok' : whole (s.pend ++ [x]) = false → ({ s with pend := s.pend ++ [x] } : K).ok := by
    intro hw
    obtain ⟨_, h2, h3⟩ := h
    exact ⟨fun _ => ⟨c, hc, hb, hw⟩, h2, h3⟩
  by_cases hs : s.plain
  · have hL : SL (x :: compl c (s.pend ++ [x]) ++ s.later) (x :: compl c (s.pend ++ [x]) ++ s.later) := SL.refl _
    have key : (s.pend = [] → whole (s.pend ++ [x]) = false) → SL s.rest (x :: compl c (s.pend ++ [x]) ++ s.later) := by
      intro hw0
      by_cases hp : s.pend = []
      · have hw := hw0 hp
        have := later_le h hs hc hp
        refine .inl ?_
        have h1 := toCome_pos hb hw
        simp only [List.length_append, List.length_cons, compl_len hb]
        omega
      · obtain ⟨hb1, hw1⟩ := hpc hp
        rw [rest_pend hs hc hp]
        exact (compl_least hb1 hw1 hb).append _
    refine ⟨fun hw => ⟨?_, ?_⟩, fun hw => ⟨hok' hw, ?_⟩⟩
    · obtain ⟨_, h2, h3⟩ := h
      obtain ⟨st, pend, opn, root, name, had, attr⟩ := s
      cases st <;> simp [K.plain] at hs <;> simp only [K.took] <;> exact ⟨fun hn => absurd rfl hn, (by first | exact h2 | exact fun _ => rfl), (by first | trivial | exact h3 | rfl)⟩
    · rw [rest_took hs]
      have := key (fun hp => by
        rw [hp, List.nil_append] at hb ⊢
        rw [whole_one x c hb]; have := hx hp; simp; omega)
      rw [compl_whole hw] at this
      simpa using this
    · have e : ({ s with pend := s.pend ++ [x] } : K).rest = compl c (s.pend ++ [x]) ++ s.later := by
        have hs' : ({ s with pend := s.pend ++ [x] } : K).plain := hs
        have hc' : ({ s with pend := s.pend ++ [x] } : K).cls = some c := hc
        rw [rest_pend hs' hc' (by simp)]
        rfl
      rw [e]
      exact key fun _ => hw
  · obtain ⟨st, pend, opn, root, name, had, attr⟩ := s
    cases st with
    | inTag =>
      obtain rfl : c = 2 := by simp [K.cls] at hc; exact hc.symm
      simp only at hb hx hok' hpc ⊢
      have hn : pend ≠ [] → nscan [] 2 pend = some (pend, 2) := fun hp => by
        obtain ⟨h1, h2⟩ := hpc hp
        simpa using nscan_part 2 pend [] h1 h2
      have hsl : ∀ p' c', nscan [] 2 (pend ++ [x]) = some (p', c') → (p' ≠ [] ∨ c' = 3) →
          SL (K.rest ⟨.inTag, pend, opn, root, name, had, attr⟩) (x :: (unlike (pend ++ [x]) had ++ [61, 34, 34, 47, 62] ++ closing opn ++ rl root)) := by
        intro p' c' h1 h2
        cases hpe : pend with
        | nil => refine .inl ?_; simp [K.rest, K.within, K.left, K.rootless, rl]; omega
        | cons z t =>
          rw [← hpe]
          have hp : pend ≠ [] := by rw [hpe]; simp
          have e : K.rest ⟨.inTag, pend, opn, root, name, had, attr⟩ = unlike pend had ++ ([61, 34, 34, 47, 62] ++ closing opn ++ rl root) := by
            rw [hpe]; simp [K.rest, K.within, K.left, K.rootless, rl]
          rw [e]
          have := (unlike_step (had := had) (hn hp) (.inl hp) h1 h2).append ([61, 34, 34, 47, 62] ++ closing opn ++ rl root)
          simpa using this
      have hw1 : whole (pend ++ [x]) = true → nscan [] 2 (pend ++ [x]) = some ([], 3) := by
        intro hw
        by_cases hp : pend = []
        · subst hp; simp only [List.nil_append] at hb hw ⊢; simp [nscan, hb, hw]
        · rw [nscan_append, hn hp]; simp [nscan, hb, hw]
      have hw2 : whole (pend ++ [x]) = false → nscan [] 2 (pend ++ [x]) = some (pend ++ [x], 2) := by
        intro hw
        simpa using nscan_part 2 (pend ++ [x]) [] hb hw
      refine ⟨fun hw => ⟨⟨fun hn => absurd rfl hn, h.2.1, h.2.2, hw1 hw⟩, ?_⟩, fun hw => ⟨hok' hw, ?_⟩⟩
      · have := hsl [] 3 (hw1 hw) (.inr rfl)
        simpa [K.took, K.rest, K.within, K.left, K.rootless, rl] using this
      · have := hsl _ 2 (hw2 hw) (.inl (by simp))
        have e : K.rest ⟨.inTag, pend ++ [x], opn, root, name, had, attr⟩ = unlike (pend ++ [x]) had ++ [61, 34, 34, 47, 62] ++ closing opn ++ rl root := by
          cases hpe : pend ++ [x] with
          | nil => simp at hpe
          | cons z t => simp [K.rest, K.within, K.left, K.rootless, rl]
        rw [e]; exact this
    | attrName =>
      obtain rfl : c = 3 := by simp [K.cls] at hc; exact hc.symm
      have hn := nscan_pend h rfl
      simp only at hb hx hok' hpc hn ⊢
      have hst : ∀ p', nscan [] 2 (attr ++ (pend ++ [x])) = some (p', 3) →
          SL (K.rest ⟨.attrName, pend, opn, root, name, had, attr⟩) (x :: (unlike (attr ++ (pend ++ [x])) had ++ [61, 34, 34, 47, 62] ++ closing opn ++ rl root)) := by
        intro p' h1
        have e0 : attr ++ (pend ++ [x]) = (attr ++ pend) ++ [x] := by simp
        have e : K.rest ⟨.attrName, pend, opn, root, name, had, attr⟩ = unlike (attr ++ pend) had ++ ([61, 34, 34, 47, 62] ++ closing opn ++ rl root) := by
          simp [K.rest, K.within, K.left, K.rootless, rl]
        rw [e0] at h1 ⊢
        rw [e]
        have := (unlike_step (had := had) hn (.inr rfl) h1 (.inr rfl)).append ([61, 34, 34, 47, 62] ++ closing opn ++ rl root)
        simpa using this
      have e0 : attr ++ (pend ++ [x]) = (attr ++ pend) ++ [x] := by simp
      have hw1 : whole (pend ++ [x]) = true → nscan [] 2 (attr ++ (pend ++ [x])) = some ([], 3) := by
        intro hw
        rw [e0, nscan_append, hn]; simp [nscan, hb, hw]
      have hw2 : whole (pend ++ [x]) = false → nscan [] 2 (attr ++ (pend ++ [x])) = some (pend ++ [x], 3) := by
        intro hw
        rw [e0, nscan_append, hn]; simp [nscan, hb, hw]
      refine ⟨fun hw => ⟨⟨fun hn => absurd rfl hn, h.2.1, h.2.2.1, hw1 hw⟩, ?_⟩, fun hw => ⟨hok' hw, ?_⟩⟩
      · have := hst [] (hw1 hw)
        simpa [K.took, K.rest, K.within, K.left, K.rootless, rl] using this
      · have := hst _ (hw2 hw)
        simpa [K.rest, K.within, K.left, K.rootless, rl] using this
    | _ => first | (exfalso; exact hs trivial) | (simp [K.cls] at hc)

theorem behind_step {s s' : K} (h : s.ok) (hp : s.pend = []) {x : UInt8} (hr : s.rest = [47, 62] ++ closing s.opn ++ rl s.root) (hs : s.behind x = some s') (hroot : s.root = true) :
    s'.ok ∧ SL s.rest (x :: s'.rest) := by
  obtain ⟨h1, h2, h3⟩ := h
  rw [hr]
  obtain ⟨st, pend, opn, root, name, had, attr⟩ := s
  simp only at hp hroot
  subst hp hroot
  simp only [K.behind] at hs
  split at hs
  · cases hs
    exact ⟨⟨fun hn => absurd rfl hn, h2, rfl⟩, .inl (by simp [K.rest, K.within, K.left, K.rootless, rl])⟩
  · split at hs
    · rename_i hx
      cases hs; subst hx
      exact ⟨⟨fun hn => absurd rfl hn, h2, rfl⟩, by simp [K.rest, K.within, K.left, K.rootless, rl]; exact SL.refl _⟩
    · split at hs
      · cases hs
        refine ⟨⟨fun hn => absurd rfl hn, fun _ => rfl, trivial⟩, .inl ?_⟩
        simp [K.rest, K.within, K.left, K.rootless, rl, closing]
        omega
      · cases hs


/-- digits and the semicolon -/
theorem digit_step {s s' : K} (h : s.ok) (hp : s.pend = []) {q : Back} {hex : Bool} {v n : Nat} (hst : ∀ l, s.st ≠ .endName l) (hl : s.st ≠ .less)
    (hroot : s.root = true) (hq : ∀ x, q = some x → x = 34 ∨ x = 39) (hv : v ≤ 0x10FFFF) (hn : n = 0 → v = 0) {x : UInt8} (hs : s.digit q hex v n x = some s') :
    s'.ok ∧ SL (digitsW hex v ++ [59] ++ tagRest q ++ closing s.opn ++ rl s.root) (x :: s'.rest) := by
  simp only [K.digit] at hs
  cases hd : digitOf hex x with
  | some d =>
    rw [hd] at hs
    simp only at hs
    split at hs
    · rename_i hv'
      cases hs
      refine ⟨⟨fun hn => absurd hp hn, h.2.1, hroot, hq, hv', fun h => by omega⟩, ?_⟩
      have := (digitsW_step hex v hv hd hv').append ([59] ++ tagRest q ++ closing s.opn ++ rl s.root)
      rw [rest_eq _ (by simp)]
      simp only [K.within, K.left]
      rw [numberRest_eq hex _ (n + 1) (by omega)]
      simpa using this
    · cases hs
  | none =>
    rw [hd] at hs
    simp only at hs
    split at hs
    · rename_i hx
      obtain ⟨rfl, hn0, ha⟩ := hx
      cases hs
      refine ⟨back_ok h hp hroot hq, ?_⟩
      rw [tagRest_back s q hp hst hl, (digitsW_nil hex v hv).2 ha]
      exact SL.refl _
    · cases hs

/-- EVERY STEP -/
theorem ascii_step {s s' : K} (h : s.ok) (hp : s.pend = []) {x : UInt8} (hx : x.toNat < 128) (hs : s.ascii x = some s') (hst : ∀ y t, s.st ≠ .endName (y :: t)) : s'.ok ∧ SL s.rest (x :: s'.rest) := by
  have h0 := h
  obtain ⟨h1, h2, h3⟩ := h
  obtain ⟨st, pend, opn, root, name, had, attr⟩ := s
  simp only at hp
  subst hp
  cases st with
  | between n =>
    simp only [K.ascii] at hs
    split at hs
    · rename_i hx; subst hx; cases hs
      refine ⟨⟨fun hn => absurd rfl hn, h2, trivial⟩, ?_⟩
      cases opn with
      | nil => cases root <;> simp [K.rest, K.within, K.left, K.rootless, closing, SL.refl] <;> exact .inl (by simp)
      | cons nm o =>
        have : root = true := h2 (by simp)
        subst this
        simp [K.rest, K.within, K.left, K.rootless, closing, SL.refl]
    · split at hs
      · split at hs
        · cases hs; exact ⟨h0, .inl (by simp)⟩
        · cases hs
      · rename_i ho
        have hroot : root = true := h2 ho
        subst hroot
        split at hs
        · cases hs
          refine ⟨⟨fun hn => absurd rfl hn, h2, rfl, (by simp), [97, 109, 112], by simp [names], by simp⟩, .inl ?_⟩
          simp [K.rest, K.within, K.left, K.rootless, tagRest]; omega
        · split at hs
          · cases hs
            exact ⟨⟨fun hn => absurd rfl hn, h2, trivial⟩, .inl (by simp [K.rest, K.within, K.left, K.rootless])⟩
          · split at hs
            · cases hs
            · split at hs
              · cases hs
                exact ⟨⟨fun hn => absurd rfl hn, h2, trivial⟩, .inl (by simp [K.rest, K.within, K.left, K.rootless])⟩
              · cases hs
  | less =>
    simp only [K.ascii] at hs
    split at hs
    · rename_i hx; subst hx; cases hs
      refine ⟨⟨fun hn => absurd rfl hn, h2, trivial⟩, ?_⟩
      cases opn with
      | nil => cases root <;> simp [K.rest, K.within, K.left, K.rootless, closing, SL.refl] <;> exact .inl (by simp)
      | cons nm o =>
        refine .inl ?_
        simp [K.rest, K.within, K.left, K.rootless, closing]; omega
    · cases opn with
      | nil =>
        simp only at hs
        split at hs
        · cases hs
        · rename_i hr
          have hr : root = false := by simpa using hr
          subst hr
          split at hs
          · rename_i hc
            cases hs
            refine ⟨⟨fun hn => absurd rfl hn, fun _ => rfl, rfl⟩, .inr ⟨by simp [K.took, K.rest, K.within, K.left, K.rootless, closing], ?_⟩⟩
            simp only [K.took, K.rest, K.within, K.left, K.rootless, closing]
            have : 65 ≤ x.toNat := by
              obtain ⟨s, hs, h1, _⟩ := (isC_iff _ _).1 hc
              have h65 : ∀ s ∈ rng 2, 65 ≤ s.1 := by decide
              have := h65 s hs
              omega
            rcases Nat.lt_or_ge 65 x.toNat with hlt | hge
            · exact .inl hlt
            · have : x = 65 := by rw [← UInt8.toNat_inj]; show x.toNat = 65; omega
              subst this
              exact .inr ⟨rfl, lexLE.refl _⟩
          · cases hs
      | cons nm o =>
        have hroot : root = true := h2 (by simp)
        subst hroot
        simp only at hs
        split at hs
        · rename_i hx; subst hx; cases hs
          refine ⟨⟨fun hn => absurd rfl hn, fun _ => rfl, rfl⟩, ?_⟩
          simp [K.rest, K.within, K.left, K.rootless, SL.refl]
        · split at hs
          · cases hs
            refine ⟨⟨fun hn => absurd rfl hn, fun _ => rfl, rfl⟩, .inl ?_⟩
            simp [K.took, K.rest, K.within, K.left, K.rootless, closing]
          · cases hs
  | bang =>
    simp only [K.ascii] at hs
    split at hs
    · rename_i hx; subst hx; cases hs
      exact ⟨⟨fun hn => absurd rfl hn, h2, trivial⟩, by simp [K.rest, K.within, K.left, K.rootless, SL.refl]⟩
    · split at hs
      · cases hs
        exact ⟨⟨fun hn => absurd rfl hn, h2, by omega, by omega⟩, .inl (by simp [K.rest, K.within, K.left, K.rootless, cdata])⟩
      · cases hs
  | dash =>
    simp only [K.ascii] at hs
    split at hs
    · rename_i hx; subst hx; cases hs
      exact ⟨⟨fun hn => absurd rfl hn, h2, trivial⟩, by simp [K.rest, K.within, K.left, K.rootless, K.cls, SL.refl]⟩
    · cases hs
  | comment n =>
    simp only [K.ascii] at hs
    split at hs
    · rename_i hn
      split at hs
      · rename_i hx; subst hx; cases hs
        refine ⟨⟨fun hn => absurd rfl hn, h2, trivial⟩, ?_⟩
        have : min n 2 = 2 := by omega
        simp [K.rest, K.within, K.left, K.rootless, K.cls, this, SL.refl]
      · cases hs
    · rename_i hn
      split at hs
      · rename_i hx; subst hx; cases hs
        refine ⟨⟨fun hn => absurd rfl hn, h2, trivial⟩, ?_⟩
        have : n = 0 ∨ n = 1 := by omega
        rcases this with rfl | rfl <;> simp [K.rest, K.within, K.left, K.rootless, K.cls, SL.refl]
      · split at hs
        · cases hs
          refine ⟨⟨fun hn => absurd rfl hn, h2, trivial⟩, .inl ?_⟩
          simp [K.rest, K.within, K.left, K.rootless, K.cls]; omega
        · cases hs
  | literal k =>
    simp only [K.ascii] at hs
    obtain ⟨hk1, hk6⟩ := h3
    split at hs
    · rename_i hx
      have hk : k = 1 ∨ k = 2 ∨ k = 3 ∨ k = 4 ∨ k = 5 ∨ k = 6 := by omega
      rcases hk with rfl | rfl | rfl | rfl | rfl | rfl <;> simp [cdata] at hx <;> subst hx <;> simp at hs <;> subst hs <;>
        exact ⟨⟨fun hn => absurd rfl hn, h2, by first | trivial | exact ⟨by omega, by omega⟩⟩, by simp [K.rest, K.within, K.left, K.rootless, cdata, K.cls, SL.refl]⟩
    · cases hs
  | section_ n =>
    simp only [K.ascii] at hs
    split at hs
    · rename_i hx
      obtain ⟨hn, rfl⟩ := hx
      cases hs
      have : min n 2 = 2 := by omega
      exact ⟨⟨fun hn => absurd rfl hn, h2, trivial⟩, by simp [K.rest, K.within, K.left, K.rootless, K.cls, this, SL.refl]⟩
    · split at hs
      · rename_i hx; subst hx; cases hs
        refine ⟨⟨fun hn => absurd rfl hn, h2, trivial⟩, ?_⟩
        by_cases hn : n < 2
        · have : n = 0 ∨ n = 1 := by omega
          rcases this with rfl | rfl <;> simp [K.rest, K.within, K.left, K.rootless, K.cls, SL.refl]
        · refine .inl ?_
          simp [K.rest, K.within, K.left, K.rootless, K.cls]; omega
      · split at hs
        · cases hs
          refine ⟨⟨fun hn => absurd rfl hn, h2, trivial⟩, .inl ?_⟩
          simp [K.rest, K.within, K.left, K.rootless, K.cls]; omega
        · cases hs
  | named q t =>
    obtain ⟨hroot, hq, m, hm, ht⟩ := h3
    simp only at hroot
    subst hroot
    have hr : K.rest ⟨.named q t, [], opn, true, name, had, attr⟩ = namedRest t ++ (tagRest q ++ closing opn ++ rl true) := by
      simp [K.rest, K.within, K.left, K.rootless, namedRest, rl]
    rw [hr]
    simp only [K.ascii] at hs
    split at hs
    · rename_i hx
      obtain ⟨rfl, rfl⟩ := hx
      cases hs
      refine ⟨⟨fun hn => absurd rfl hn, h2, rfl, hq⟩, ?_⟩
      simp [K.rest, K.within, K.left, K.rootless, namedRest, rl, SL.refl]
    · split at hs
      · rename_i hx; subst hx
        split at hs
        · rename_i hmem
          cases hs
          refine ⟨back_ok h0 rfl rfl hq, ?_⟩
          rw [tagRest_back _ q rfl (by simp) (by simp), (names_end t hmem).1]
          exact SL.refl _
        · cases hs
      · split at hs
        · rename_i hany
          cases hs
          refine ⟨⟨fun hn => absurd rfl hn, h2, rfl, hq, any_prefix hany⟩, ?_⟩
          have := (named_step hm ht x hany).append (tagRest q ++ closing opn ++ rl true)
          simpa [K.rest, K.within, K.left, K.rootless, namedRest, rl] using this
        · cases hs
  | hash q =>
    obtain ⟨hroot, hq⟩ := h3
    simp only at hroot
    subst hroot
    have hr : K.rest ⟨.hash q, [], opn, true, name, had, attr⟩ = digitsW false 0 ++ [59] ++ tagRest q ++ closing opn ++ rl true := by
      have : digitsW false 0 = [57] := by decide +kernel
      simp [K.rest, K.within, K.left, K.rootless, this, rl]
    rw [hr]
    simp only [K.ascii] at hs
    split at hs
    · cases hs
      refine ⟨⟨fun hn => absurd rfl hn, h2, rfl, hq, by omega, fun _ => rfl⟩, .inl ?_⟩
      have : digitsW false 0 = [57] := by decide +kernel
      have h2 : digitsW true 0 = [57] := by decide +kernel
      simp [K.rest, K.within, K.left, K.rootless, numberRest_eq, this, h2, rl]
    · exact digit_step h0 rfl (by simp) (by simp) rfl hq (by omega) (fun _ => rfl) hs
  | number q hex v n =>
    obtain ⟨hroot, hq, hv, hn⟩ := h3
    simp only at hroot
    subst hroot
    have hr : K.rest ⟨.number q hex v n, [], opn, true, name, had, attr⟩ = digitsW hex v ++ [59] ++ tagRest q ++ closing opn ++ rl true := by
      simp [K.rest, K.within, K.left, K.rootless, numberRest_eq hex v n hn, rl]
    rw [hr]
    exact digit_step h0 rfl (by simp) (by simp) rfl hq hv hn hs
  | tagName =>
    simp only at h3
    subst h3
    simp only [K.ascii] at hs
    split at hs
    · cases hs
      exact ⟨⟨fun hn => absurd rfl hn, h2, rfl⟩, .inl (by simp [K.took, K.rest, K.within, K.left, K.rootless, K.cls])⟩
    · exact behind_step h0 rfl (by simp [K.rest, K.within, K.left, K.rootless, K.cls, rl]) hs rfl
  | inTag =>
    simp only at h3
    subst h3
    simp only [K.ascii] at hs
    split at hs
    · rename_i hc
      cases hs
      obtain ⟨hb, hw⟩ := isC_ascii 2 x hc hx
      refine ⟨⟨fun hn => absurd rfl hn, h2, rfl, by simp [K.took, nscan, hb, hw]⟩, .inl ?_⟩
      simp [K.took, K.rest, K.within, K.left, K.rootless]; omega
    · exact behind_step h0 rfl (by simp [K.rest, K.within, K.left, K.rootless, K.cls, rl]) hs rfl
  | valued =>
    simp only at h3
    subst h3
    simp only [K.ascii] at hs
    exact behind_step h0 rfl (by simp [K.rest, K.within, K.left, K.rootless, K.cls, rl]) hs rfl
  | attrName =>
    obtain ⟨hroot, hn⟩ := h3
    simp only at hroot hn
    subst hroot
    simp only [K.ascii] at hs
    split at hs
    · rename_i hc
      cases hs
      obtain ⟨hb, hw⟩ := isC_ascii 3 x hc hx
      have hn' : nscan [] 2 (attr ++ [x]) = some ([], 3) := by rw [nscan_append, hn]; simp [nscan, hb, hw]
      refine ⟨⟨fun hn => absurd rfl hn, h2, rfl, hn'⟩, ?_⟩
      have := (unlike_step (had := had) hn (.inr rfl) hn' (.inr rfl)).append ([61, 34, 34, 47, 62] ++ closing opn)
      simpa [K.took, K.rest, K.within, K.left, K.rootless] using this
    · split at hs
      · cases hs
      · rename_i hmem
        have hu := unlike_nil hn hmem
        split at hs
        · rename_i hx; subst hx; cases hs
          refine ⟨⟨fun hn => absurd rfl hn, h2, rfl⟩, ?_⟩
          simp [K.rest, K.within, K.left, K.rootless, hu, SL.refl]
        · split at hs
          · cases hs
            exact ⟨⟨fun hn => absurd rfl hn, h2, rfl⟩, .inl (by simp [K.rest, K.within, K.left, K.rootless, hu])⟩
          · cases hs
  | attrEnd =>
    simp only at h3
    subst h3
    simp only [K.ascii] at hs
    split at hs
    · cases hs; exact ⟨h0, .inl (by simp)⟩
    · split at hs
      · rename_i hx; subst hx; cases hs
        exact ⟨⟨fun hn => absurd rfl hn, h2, rfl⟩, by simp [K.rest, K.within, K.left, K.rootless, SL.refl]⟩
      · cases hs
  | equals =>
    simp only at h3
    subst h3
    simp only [K.ascii] at hs
    split at hs
    · cases hs; exact ⟨h0, .inl (by simp)⟩
    · split at hs
      · rename_i hx
        cases hs
        refine ⟨⟨fun hn => absurd rfl hn, h2, rfl, hx⟩, ?_⟩
        rcases hx with rfl | rfl
        · simp [K.rest, K.within, K.left, K.rootless, K.cls, SL.refl]
        · refine .inr ⟨by simp [K.rest, K.within, K.left, K.rootless, K.cls], ?_⟩
          simp only [K.rest, K.within, K.left, K.rootless, K.cls]
          exact .inl (by decide)
      · cases hs
  | value q =>
    obtain ⟨hroot, hq⟩ := h3
    simp only at hroot
    subst hroot
    simp only [K.ascii] at hs
    split at hs
    · rename_i hx; subst hx; cases hs
      exact ⟨⟨fun hn => absurd rfl hn, h2, rfl⟩, by simp [K.rest, K.within, K.left, K.rootless, K.cls, SL.refl]⟩
    · split at hs
      · cases hs
      · split at hs
        · cases hs
          refine ⟨⟨fun hn => absurd rfl hn, h2, rfl, (by rintro y ⟨⟩; exact hq), [97, 109, 112], by simp [names], by simp⟩, .inl ?_⟩
          simp [K.rest, K.within, K.left, K.rootless, K.cls, tagRest]
        · split at hs
          · cases hs
            exact ⟨h0, .inl (by simp)⟩
          · cases hs
  | slash =>
    simp only at h3
    subst h3
    simp only [K.ascii] at hs
    split at hs
    · rename_i hx; subst hx; cases hs
      exact ⟨⟨fun hn => absurd rfl hn, h2, trivial⟩, by simp [K.rest, K.within, K.left, K.rootless, SL.refl]⟩
    · cases hs
  | endName left =>
    simp only at h3
    subst h3
    cases left with
    | cons y t => exact absurd rfl (hst y t)
    | nil =>
      simp only [K.ascii] at hs
      split at hs
      · cases hs; exact ⟨h0, .inl (by simp)⟩
      · split at hs
        · rename_i hx; subst hx; cases hs
          exact ⟨⟨fun hn => absurd rfl hn, h2, trivial⟩, by simp [K.rest, K.within, K.left, K.rootless, SL.refl]⟩
        · cases hs

end Gm
