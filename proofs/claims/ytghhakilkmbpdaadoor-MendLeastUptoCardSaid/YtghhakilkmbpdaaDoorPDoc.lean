/- Plain Lean, no program: what ends a state makes a document of it, byte by byte; and it is the least. -/
import Derived.Test.YtghhakilkmbpdaaDoorPStep
namespace Gm

theorem step_endName {s : K} {y : UInt8} {t : Bs} (h : s.st = .endName (y :: t)) (x : UInt8) : s.step x = if x = y then some { s with st := .endName t } else none := by
  unfold K.step; rw [h]
theorem step_ascii {s : K} (h : ∀ y t, s.st ≠ .endName (y :: t)) (hp : s.pend = []) {x : UInt8} (hx : x.toNat < 128) : s.step x = s.ascii x := by
  unfold K.step
  split
  · rename_i y t e; exact absurd e (h y t)
  · rw [if_pos ⟨hp, hx⟩]
theorem step_pend {s : K} (h : ∀ y t, s.st ≠ .endName (y :: t)) {x : UInt8} (hx : ¬ (s.pend = [] ∧ x.toNat < 128)) :
    s.step x = match s.cls with
      | none => none
      | some c => if begins c (s.pend ++ [x]) then (if whole (s.pend ++ [x]) then some (s.took (s.pend ++ [x])) else some { s with pend := s.pend ++ [x] }) else none := by
  unfold K.step
  split
  · rename_i y t e; exact absurd e (h y t)
  · rw [if_neg hx]; rfl

theorem step_least {s s' : K} (h : s.ok) {x : UInt8} (hs : s.step x = some s') : s'.ok ∧ SL s.rest (x :: s'.rest) := by
  by_cases he : ∃ y t, s.st = .endName (y :: t)
  · obtain ⟨y, t, he⟩ := he
    rw [step_endName he] at hs
    split at hs
    · rename_i hx; subst hx; cases hs
      obtain ⟨h1, h2, h3⟩ := h
      obtain ⟨st, pend, opn, root, name, had, attr⟩ := s
      simp only at he
      subst he
      refine ⟨⟨?_, h2, h3⟩, by simp [K.rest, K.within, K.left, K.rootless, SL.refl]⟩
      intro hp
      obtain ⟨c, hc, _⟩ := h1 hp
      simp [K.cls] at hc
    · cases hs
  · have he : ∀ y t, s.st ≠ .endName (y :: t) := fun y t e => he ⟨y, t, e⟩
    by_cases hx : s.pend = [] ∧ x.toNat < 128
    · rw [step_ascii he hx.1 hx.2] at hs
      exact ascii_step h hx.1 hx.2 hs he
    · rw [step_pend he hx] at hs
      cases hc : s.cls with
      | none => rw [hc] at hs; cases hs
      | some c =>
        rw [hc] at hs
        simp only at hs
        split at hs
        · rename_i hb
          obtain ⟨a, b⟩ := pend_step h hc hb (fun hp => by
            rcases Nat.lt_or_ge x.toNat 128 with h | h
            · exact absurd ⟨hp, h⟩ hx
            · exact h)
          split at hs
          · rename_i hw; cases hs; exact a hw
          · rename_i hw; cases hs; exact b (by simpa using hw)
        · cases hs

/-- what ends a state: its first byte goes on, and the others end what is then -/
theorem step_cons {s : K} (h : s.ok) {y : UInt8} {t : Bs} (hr : s.rest = y :: t) : ∃ s', s.step y = some s' ∧ s'.rest = t := by
  have h0 := h
  obtain ⟨h1, h2, h3⟩ := h
  by_cases hs : s.plain ∧ s.pend ≠ []
  · obtain ⟨hs, hp⟩ := hs
    obtain ⟨c, hc, hb, hw⟩ := h1 hp
    have he : ∀ y t, s.st ≠ .endName (y :: t) := by
      intro y t e
      unfold K.plain at hs
      rw [e] at hs
      exact hs
    obtain ⟨y', hy', e, _⟩ := compl_cons hb hw
    rw [rest_pend hs hc hp, e, List.cons_append] at hr
    simp only [List.cons.injEq] at hr
    obtain ⟨rfl, hr⟩ := hr
    rw [step_pend he (fun h => hp h.1), hc]
    simp only [hy', if_true]
    cases hw' : whole (s.pend ++ [y']) with
    | true =>
      refine ⟨_, rfl, ?_⟩
      rw [rest_took hs]
      rw [compl_whole hw'] at hr
      simpa using hr
    | false =>
      refine ⟨_, rfl, ?_⟩
      have hs' : ({ s with pend := s.pend ++ [y'] } : K).plain := hs
      have hc' : ({ s with pend := s.pend ++ [y'] } : K).cls = some c := hc
      rw [rest_pend hs' hc' (by simp)]
      exact hr
  · have hpn : s.plain → s.pend = [] := fun hpl => by
      by_cases hp : s.pend = []
      · exact hp
      · exact absurd ⟨hpl, hp⟩ hs
    clear hs
    obtain ⟨st, pend, opn, root, name, had, attr⟩ := s
    have A : ∀ (s : K) (x : UInt8), (∀ y t, s.st ≠ .endName (y :: t)) → s.pend = [] → x.toNat < 128 → ∀ s', s.ascii x = some s' → s'.rest = t → y = x → ∃ s', s.step y = some s' ∧ s'.rest = t := by
      intro s x he hp hx s' hs hr e
      subst e
      exact ⟨s', by rw [step_ascii he hp hx]; exact hs, hr⟩
    cases st with
    | between n =>
      obtain rfl := hpn trivial
      cases opn with
      | nil =>
        cases root with
        | true => simp [K.rest, K.within, K.left, K.rootless, closing] at hr
        | false =>
          simp [K.rest, K.within, K.left, K.rootless, closing] at hr
          obtain ⟨rfl, rfl⟩ := hr
          exact A _ 60 (by simp) rfl (by decide) _ rfl (by simp [K.rest, K.within, K.left, K.rootless, closing]) rfl
      | cons nm o =>
        have : root = true := h2 (by simp)
        subst this
        simp [K.rest, K.within, K.left, K.rootless, closing] at hr
        obtain ⟨rfl, rfl⟩ := hr
        exact A _ 60 (by simp) rfl (by decide) _ rfl (by simp [K.rest, K.within, K.left, K.rootless, closing]) rfl
    | less =>
      obtain rfl := hpn trivial
      cases opn with
      | nil =>
        cases root with
        | true =>
          simp [K.rest, K.within, K.left, K.rootless, closing] at hr
          obtain ⟨rfl, rfl⟩ := hr
          exact A _ 33 (by simp) rfl (by decide) _ rfl (by simp [K.rest, K.within, K.left, K.rootless, closing]) rfl
        | false =>
          simp [K.rest, K.within, K.left, K.rootless, closing] at hr
          obtain ⟨rfl, rfl⟩ := hr
          exact A _ 65 (by simp) rfl (by decide) _ rfl (by simp [K.took, K.rest, K.within, K.left, K.rootless, closing]) rfl
      | cons nm o =>
        have : root = true := h2 (by simp)
        subst this
        simp [K.rest, K.within, K.left, K.rootless, closing] at hr
        obtain ⟨rfl, rfl⟩ := hr
        exact A _ 47 (by simp) rfl (by decide) _ rfl (by simp [K.rest, K.within, K.left, K.rootless, closing]) rfl
    | bang =>
      have hp : pend = [] := by
        cases pend with
        | nil => rfl
        | cons a b => obtain ⟨c, hc, _⟩ := h1 (by simp); simp [K.cls] at hc
      subst hp
      simp [K.rest, K.within, K.left, K.rootless] at hr
      obtain ⟨rfl, rfl⟩ := hr
      exact A _ 45 (by simp) rfl (by decide) _ rfl (by simp [K.rest, K.within, K.left, K.rootless]) rfl
    | dash =>
      have hp : pend = [] := by
        cases pend with
        | nil => rfl
        | cons a b => obtain ⟨c, hc, _⟩ := h1 (by simp); simp [K.cls] at hc
      subst hp
      simp [K.rest, K.within, K.left, K.rootless] at hr
      obtain ⟨rfl, rfl⟩ := hr
      exact A _ 45 (by simp) rfl (by decide) _ rfl (by simp [K.rest, K.within, K.left, K.rootless, K.cls]) rfl
    | comment n =>
      obtain rfl := hpn trivial
      by_cases hn : 2 ≤ n
      · have e : min n 2 = 2 := by omega
        simp [K.rest, K.within, K.left, K.rootless, K.cls, e] at hr
        obtain ⟨rfl, rfl⟩ := hr
        exact A _ 62 (by simp) rfl (by decide) _ (by simp [K.ascii, hn]; rfl) (by simp [K.rest, K.within, K.left, K.rootless, K.cls]) rfl
      · have : n = 0 ∨ n = 1 := by omega
        rcases this with rfl | rfl
        · simp [K.rest, K.within, K.left, K.rootless, K.cls] at hr
          obtain ⟨rfl, rfl⟩ := hr
          exact A _ 45 (by simp) rfl (by decide) _ rfl (by simp [K.rest, K.within, K.left, K.rootless, K.cls]) rfl
        · simp [K.rest, K.within, K.left, K.rootless, K.cls] at hr
          obtain ⟨rfl, rfl⟩ := hr
          exact A _ 45 (by simp) rfl (by decide) _ rfl (by simp [K.rest, K.within, K.left, K.rootless, K.cls]) rfl
    | literal k =>
      have hp : pend = [] := by
        cases pend with
        | nil => rfl
        | cons a b => obtain ⟨c, hc, _⟩ := h1 (by simp); simp [K.cls] at hc
      subst hp
      obtain ⟨hk1, hk6⟩ := h3
      have hk : k = 1 ∨ k = 2 ∨ k = 3 ∨ k = 4 ∨ k = 5 ∨ k = 6 := by omega
      rcases hk with rfl | rfl | rfl | rfl | rfl | rfl <;> simp [K.rest, K.within, K.left, K.rootless, cdata] at hr <;> obtain ⟨rfl, rfl⟩ := hr
      · exact A _ 67 (by simp) rfl (by decide) _ rfl (by simp [K.rest, K.within, K.left, K.rootless, cdata]) rfl
      · exact A _ 68 (by simp) rfl (by decide) _ rfl (by simp [K.rest, K.within, K.left, K.rootless, cdata]) rfl
      · exact A _ 65 (by simp) rfl (by decide) _ rfl (by simp [K.rest, K.within, K.left, K.rootless, cdata]) rfl
      · exact A _ 84 (by simp) rfl (by decide) _ rfl (by simp [K.rest, K.within, K.left, K.rootless, cdata]) rfl
      · exact A _ 65 (by simp) rfl (by decide) _ rfl (by simp [K.rest, K.within, K.left, K.rootless, cdata]) rfl
      · exact A _ 91 (by simp) rfl (by decide) _ rfl (by simp [K.rest, K.within, K.left, K.rootless, K.cls]) rfl
    | section_ n =>
      obtain rfl := hpn trivial
      by_cases hn : 2 ≤ n
      · have e : min n 2 = 2 := by omega
        simp [K.rest, K.within, K.left, K.rootless, K.cls, e] at hr
        obtain ⟨rfl, rfl⟩ := hr
        exact A _ 62 (by simp) rfl (by decide) _ (by simp [K.ascii, hn]; rfl) (by simp [K.rest, K.within, K.left, K.rootless, K.cls]) rfl
      · have : n = 0 ∨ n = 1 := by omega
        rcases this with rfl | rfl
        · simp [K.rest, K.within, K.left, K.rootless, K.cls] at hr
          obtain ⟨rfl, rfl⟩ := hr
          exact A _ 93 (by simp) rfl (by decide) _ rfl (by simp [K.rest, K.within, K.left, K.rootless, K.cls]) rfl
        · simp [K.rest, K.within, K.left, K.rootless, K.cls] at hr
          obtain ⟨rfl, rfl⟩ := hr
          exact A _ 93 (by simp) rfl (by decide) _ rfl (by simp [K.rest, K.within, K.left, K.rootless, K.cls]) rfl
    | named q u =>
      have hp : pend = [] := by
        cases pend with
        | nil => rfl
        | cons a b => obtain ⟨c, hc, _⟩ := h1 (by simp); simp [K.cls] at hc
      subst hp
      obtain ⟨hroot, hq, m, hm, ht⟩ := h3
      simp only at hroot
      subst hroot
      have e : K.rest ⟨.named q u, [], opn, true, name, had, attr⟩ = namedRest u ++ (tagRest q ++ closing opn ++ rl true) := by
        simp [K.rest, K.within, K.left, K.rootless, namedRest, rl]
      rw [e] at hr
      by_cases hu : u = []
      · subst hu
        simp [namedRest] at hr
        obtain ⟨rfl, rfl⟩ := hr
        exact A _ 35 (by simp) rfl (by decide) _ rfl (by simp [K.rest, K.within, K.left, K.rootless, rl]) rfl
      · rcases named_cons hm ht hu with ⟨hmem, hn⟩ | ⟨z, hz, hz1, hz2, hz3, hn⟩
        · rw [hn] at hr
          simp only [List.cons_append, List.nil_append, List.cons.injEq] at hr
          obtain ⟨rfl, rfl⟩ := hr
          refine A _ 59 (by simp) rfl (by decide) _ (by simp [K.ascii, hu, hmem]; rfl) ?_ rfl
          rw [tagRest_back _ q rfl (by simp) (by simp)]
          rfl
        · rw [hn] at hr
          simp only [List.cons_append, List.cons.injEq] at hr
          obtain ⟨rfl, rfl⟩ := hr
          refine A _ z (by simp) rfl hz3 _ (by unfold K.ascii; dsimp only; rw [if_neg (fun h => hz2 h.2), if_neg hz1]; exact if_pos hz) ?_ rfl
          simp [K.rest, K.within, K.left, K.rootless, namedRest, rl]
    | hash q =>
      have hp : pend = [] := by
        cases pend with
        | nil => rfl
        | cons a b => obtain ⟨c, hc, _⟩ := h1 (by simp); simp [K.cls] at hc
      subst hp
      simp [K.rest, K.within, K.left, K.rootless] at hr
      obtain ⟨rfl, rfl⟩ := hr
      refine A _ 57 (by simp) rfl (by decide) _ rfl ?_ rfl
      have : numberRest false 9 1 = [59] := by decide +kernel
      simp [K.rest, K.within, K.left, K.rootless, this]
    | number q hex v n =>
      have hp : pend = [] := by
        cases pend with
        | nil => rfl
        | cons a b => obtain ⟨c, hc, _⟩ := h1 (by simp); simp [K.cls] at hc
      subst hp
      obtain ⟨hroot, hq, hv, hn⟩ := h3
      simp only at hroot
      subst hroot
      have e : K.rest ⟨.number q hex v n, [], opn, true, name, had, attr⟩ = digitsW hex v ++ ([59] ++ tagRest q ++ closing opn ++ rl true) := by
        simp [K.rest, K.within, K.left, K.rootless, numberRest_eq hex v n hn, rl]
      rw [e] at hr
      cases hd : digitsW hex v with
      | nil =>
        rw [hd] at hr
        simp only [List.nil_append, List.cons_append, List.cons.injEq] at hr
        obtain ⟨rfl, rfl⟩ := hr
        have ha := (digitsW_nil hex v hv).1 hd
        have hn0 : n ≠ 0 := by
          rintro rfl
          rw [hn rfl, isC0] at ha; omega
        refine A _ 59 (by simp) rfl (by decide) _ (by
          simp only [K.ascii, K.digit]
          have : digitOf hex 59 = none := by cases hex <;> decide
          rw [this]
          simp [hn0, ha]
          rfl) ?_ rfl
        rw [tagRest_back _ q rfl (by simp) (by simp)]
        rfl
      | cons z w =>
        rw [hd] at hr
        simp only [List.cons_append, List.cons.injEq] at hr
        obtain ⟨rfl, rfl⟩ := hr
        obtain ⟨d, hz, hv', hw⟩ := digitsW_cons hex v hv hd
        have hz128 : z.toNat < 128 := by
          unfold digitOf at hz
          repeat' split at hz
          all_goals first | omega | cases hz
        refine A _ z (by simp) rfl hz128 _ (by
          simp only [K.ascii, K.digit]
          rw [hz]
          exact if_pos hv') ?_ rfl
        simp only [K.rest, K.within, K.left, K.rootless]
        rw [numberRest_eq hex _ _ (by omega), hw]
        simp [rl]
    | tagName =>
      obtain rfl := hpn trivial
      simp [K.rest, K.within, K.left, K.rootless, K.cls] at hr
      obtain ⟨rfl, rfl⟩ := hr
      exact A _ 47 (by simp) rfl (by decide) _ rfl (by simp [K.rest, K.within, K.left, K.rootless]) rfl
    | inTag =>
      cases hpe : pend with
      | nil =>
        subst hpe
        simp [K.rest, K.within, K.left, K.rootless, K.cls] at hr
        obtain ⟨rfl, rfl⟩ := hr
        exact A _ 47 (by simp) rfl (by decide) _ rfl (by simp [K.rest, K.within, K.left, K.rootless]) rfl
      | cons a b =>
        have hp : pend ≠ [] := by rw [hpe]; simp
        obtain ⟨c, hc, hb, hw⟩ := h1 hp
        obtain rfl : c = 2 := by simp [K.cls] at hc; exact hc.symm
        simp only at hb hw
        have hn : nscan [] 2 pend = some (pend, 2) := by simpa using nscan_part 2 pend [] hb hw
        have e : K.rest ⟨.inTag, pend, opn, root, name, had, attr⟩ = unlike pend had ++ ([61, 34, 34, 47, 62] ++ closing opn ++ rl root) := by
          rw [hpe]; simp [K.rest, K.within, K.left, K.rootless, rl]
        rw [← hpe]
        rw [e] at hr
        cases hu : unlike pend had with
        | nil =>
          have := (unlike_spec had pend pend 2 hn (.inl hp)).1.1
          rw [hu, List.append_nil, hn] at this
          simp at this
        | cons z w =>
          rw [hu] at hr
          simp only [List.cons_append, List.cons.injEq] at hr
          obtain ⟨rfl, rfl⟩ := hr
          obtain ⟨p', c', hz, hz2, hp', hw'⟩ := unlike_cons hn (.inl hp) hu
          rw [step_pend (by simp) (fun h => hp h.1)]
          simp only [K.cls]
          simp only [nscan] at hz
          split at hz
          · rename_i hbz
            simp only [hbz, if_true]
            split at hz
            · rename_i hwz
              simp only [hwz, if_true]
              refine ⟨_, rfl, ?_⟩
              simp [K.took, K.rest, K.within, K.left, K.rootless, hw', rl]
            · rename_i hwz
              simp only [hwz, if_false]
              refine ⟨_, rfl, ?_⟩
              have : K.rest ⟨.inTag, pend ++ [z], opn, root, name, had, attr⟩ = unlike (pend ++ [z]) had ++ ([61, 34, 34, 47, 62] ++ closing opn ++ rl root) := by
                cases hpz : pend ++ [z] with
                | nil => simp at hpz
                | cons _ _ => simp [K.rest, K.within, K.left, K.rootless, rl]
              rw [hw'] at this
              exact this
          · cases hz
    | valued =>
      have hp : pend = [] := by
        cases pend with
        | nil => rfl
        | cons a b => obtain ⟨c, hc, _⟩ := h1 (by simp); simp [K.cls] at hc
      subst hp
      simp [K.rest, K.within, K.left, K.rootless, K.cls] at hr
      obtain ⟨rfl, rfl⟩ := hr
      exact A _ 47 (by simp) rfl (by decide) _ rfl (by simp [K.rest, K.within, K.left, K.rootless]) rfl
    | attrName =>
      have hn := nscan_pend h0 rfl
      obtain ⟨hroot, hna⟩ := h3
      simp only at hroot hna hn
      have e : K.rest ⟨.attrName, pend, opn, root, name, had, attr⟩ = unlike (attr ++ pend) had ++ ([61, 34, 34, 47, 62] ++ closing opn ++ rl root) := by
        simp [K.rest, K.within, K.left, K.rootless, rl]
      rw [e] at hr
      cases hu : unlike (attr ++ pend) had with
      | nil =>
        obtain ⟨a1, a2⟩ := (unlike_spec had (attr ++ pend) pend 3 hn (.inr rfl)).1
        rw [hu, List.append_nil] at a1 a2
        rw [hn] at a1
        simp only [Option.some.injEq, Prod.mk.injEq, and_true] at a1
        subst a1
        rw [hu] at hr
        simp at hr a2
        obtain ⟨rfl, rfl⟩ := hr
        refine A _ 61 (by simp) rfl (by decide) _ (by unfold K.ascii; dsimp only; rw [if_neg (by decide), if_neg a2]; exact if_pos rfl) ?_ rfl
        simp [K.rest, K.within, K.left, K.rootless, rl]
      | cons z w =>
        rw [hu] at hr
        simp only [List.cons_append, List.cons.injEq] at hr
        obtain ⟨rfl, rfl⟩ := hr
        obtain ⟨p', c', hz, hz2, hp', hw'⟩ := unlike_cons hn (.inr rfl) hu
        simp only [nscan] at hz
        split at hz
        · rename_i hbz
          have hres : (if whole (pend ++ [z]) = true then ∃ s', some (K.took ⟨.attrName, pend, opn, root, name, had, attr⟩ (pend ++ [z])) = some s' ∧ s'.rest = w ++ ([61, 34, 34, 47, 62] ++ closing opn ++ rl root)
              else ∃ s', some (⟨.attrName, pend ++ [z], opn, root, name, had, attr⟩ : K) = some s' ∧ s'.rest = w ++ ([61, 34, 34, 47, 62] ++ closing opn ++ rl root)) := by
            split
            · refine ⟨_, rfl, ?_⟩
              have : unlike (attr ++ (pend ++ [z])) had = w := by rw [← List.append_assoc]; exact hw'
              simp [K.took, K.rest, K.within, K.left, K.rootless, this, rl]
            · refine ⟨_, rfl, ?_⟩
              have : unlike (attr ++ (pend ++ [z])) had = w := by rw [← List.append_assoc]; exact hw'
              simp [K.rest, K.within, K.left, K.rootless, this, rl]
          by_cases hx : pend = [] ∧ z.toNat < 128
          · obtain ⟨rfl, hx⟩ := hx
            simp only [List.nil_append] at hbz hres
            have hw1 : whole [z] = true := by rw [whole_one z 3 hbz]; simpa using hx
            rw [step_ascii (by simp) rfl hx]
            simp only [K.ascii]
            rw [begins_ascii 3 z hx] at hbz
            rw [if_pos hbz]
            rw [if_pos hw1] at hres
            exact hres
          · rw [step_pend (by simp) hx]
            simp only [K.cls, hbz, if_true]
            split
            · rename_i hw; rw [if_pos hw] at hres; exact hres
            · rename_i hw; rw [if_neg hw] at hres; exact hres
        · cases hz
    | attrEnd =>
      have hp : pend = [] := by
        cases pend with
        | nil => rfl
        | cons a b => obtain ⟨c, hc, _⟩ := h1 (by simp); simp [K.cls] at hc
      subst hp
      simp [K.rest, K.within, K.left, K.rootless] at hr
      obtain ⟨rfl, rfl⟩ := hr
      exact A _ 61 (by simp) rfl (by decide) _ rfl (by simp [K.rest, K.within, K.left, K.rootless]) rfl
    | equals =>
      have hp : pend = [] := by
        cases pend with
        | nil => rfl
        | cons a b => obtain ⟨c, hc, _⟩ := h1 (by simp); simp [K.cls] at hc
      subst hp
      simp [K.rest, K.within, K.left, K.rootless] at hr
      obtain ⟨rfl, rfl⟩ := hr
      exact A _ 34 (by simp) rfl (by decide) _ rfl (by simp [K.rest, K.within, K.left, K.rootless, K.cls]) rfl
    | value q =>
      obtain rfl := hpn trivial
      obtain ⟨hroot, hq⟩ := h3
      simp [K.rest, K.within, K.left, K.rootless, K.cls] at hr
      obtain ⟨rfl, rfl⟩ := hr
      exact A _ q (by simp) rfl (by rcases hq with rfl | rfl <;> decide) _ (by unfold K.ascii; exact if_pos rfl) (by simp [K.rest, K.within, K.left, K.rootless]) rfl
    | slash =>
      have hp : pend = [] := by
        cases pend with
        | nil => rfl
        | cons a b => obtain ⟨c, hc, _⟩ := h1 (by simp); simp [K.cls] at hc
      subst hp
      simp [K.rest, K.within, K.left, K.rootless] at hr
      obtain ⟨rfl, rfl⟩ := hr
      exact A _ 62 (by simp) rfl (by decide) _ rfl (by simp [K.rest, K.within, K.left, K.rootless]) rfl
    | endName left =>
      cases left with
      | cons z w =>
        simp [K.rest, K.within, K.left, K.rootless] at hr
        obtain ⟨rfl, rfl⟩ := hr
        refine ⟨_, (step_endName rfl _).trans (if_pos rfl), ?_⟩
        simp [K.rest, K.within, K.left, K.rootless]
      | nil =>
        have hp : pend = [] := by
          cases pend with
          | nil => rfl
          | cons a b => obtain ⟨c, hc, _⟩ := h1 (by simp); simp [K.cls] at hc
        subst hp
        simp [K.rest, K.within, K.left, K.rootless] at hr
        obtain ⟨rfl, rfl⟩ := hr
        exact A _ 62 (by simp) rfl (by decide) _ rfl (by simp [K.rest, K.within, K.left, K.rootless]) rfl

/-! ### runs -/
theorem run_append : ∀ (a b : Bs) (s : K), s.run (a ++ b) = (s.run a).bind fun s' => s'.run b := by
  intro a
  induction a with
  | nil => intro b s; rfl
  | cons x a ih =>
    intro b s
    simp only [List.cons_append, K.run]
    cases s.step x with
    | none => rfl
    | some s' => exact ih b s'

theorem run_least : ∀ (t : Bs) (s s' : K), s.ok → s.run t = some s' → s'.ok ∧ SL s.rest (t ++ s'.rest) := by
  intro t
  induction t with
  | nil => intro s s' h e; cases e; exact ⟨h, SL.refl _⟩
  | cons x t ih =>
    intro s s' h e
    simp only [K.run] at e
    cases hs : s.step x with
    | none => rw [hs] at e; cases e
    | some s1 =>
      rw [hs] at e
      obtain ⟨h1, l1⟩ := step_least h hs
      obtain ⟨h2, l2⟩ := ih s1 s' h1 e
      exact ⟨h2, l1.trans (l2.cons x)⟩

theorem run_rest : ∀ (u v : Bs) (s : K), s.ok → s.rest = u ++ v → ∃ s', s.run u = some s' ∧ s'.ok ∧ s'.rest = v := by
  intro u
  induction u with
  | nil => intro v s h e; exact ⟨s, rfl, h, e⟩
  | cons x u ih =>
    intro v s h e
    obtain ⟨s1, hs, hr⟩ := step_cons h e
    obtain ⟨s', h1, h2, h3⟩ := ih v s1 (step_least h hs).1 hr
    exact ⟨s', by simp only [K.run, hs]; exact h1, h2, h3⟩

/-- THE LAWS. b leads to a state s, which rest ends: then rest makes a document, and whatever does is no shorter, nor as long and lesser. -/
def IsDoc (b : Bs) : Prop := ∃ s, K.init.run b = some s ∧ s.rest = []

theorem rest_makes {b : Bs} {s : K} (h : K.init.run b = some s) : IsDoc (b ++ s.rest) := by
  have hok := (run_least b K.init s ok_init h).1
  obtain ⟨s', h1, _, h3⟩ := run_rest s.rest [] s hok (by simp)
  exact ⟨s', by rw [run_append, h]; exact h1, h3⟩
theorem rest_least {b : Bs} {s : K} (h : K.init.run b = some s) {t : Bs} (hd : IsDoc (b ++ t)) : SL s.rest t := by
  have hok := (run_least b K.init s ok_init h).1
  obtain ⟨s', h1, h2⟩ := hd
  rw [run_append, h] at h1
  have := (run_least t s s' hok h1).2
  rw [h2] at this
  simpa using this
theorem wrong_none {b : Bs} (h : K.init.run b = none) (t : Bs) : ¬ IsDoc (b ++ t) := by
  rintro ⟨s, h1, _⟩
  rw [run_append, h] at h1
  cases h1

end Gm
