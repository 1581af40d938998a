/- Plain Lean, no program: the machine's laws: what ends a state makes a document of it; nothing shorter does, nor anything as short and lesser. -/
import Derived.Test.YtghhakilkmbpdaaDoorPLeast
namespace Gm

/-! ### classes -/
theorem isIn_iff (r : Nat) : ∀ l : List (Nat × Nat), l.Pairwise (fun a b => a.2 < b.1) → (isIn l r = true ↔ ∃ s ∈ l, s.1 ≤ r ∧ r ≤ s.2) := by
  intro l
  induction l with
  | nil => intro _; simp [isIn]
  | cons s t ih =>
    intro h
    obtain ⟨h1, h2⟩ := List.pairwise_cons.1 h
    simp only [isIn]
    split
    · rename_i hr
      simp only [decide_eq_true_eq, List.mem_cons, exists_eq_or_imp]
      constructor
      · intro hs; exact .inl ⟨hs, hr⟩
      · rintro (⟨hs, _⟩ | ⟨s', hs', h3, h4⟩)
        · exact hs
        · have := h1 s' hs'; omega
    · rename_i hr
      rw [ih h2]
      simp only [List.mem_cons, exists_eq_or_imp]
      constructor
      · intro h; exact .inr h
      · rintro (⟨_, h⟩ | h)
        · exact absurd h hr
        · exact h

theorem rng_sorted (c : Nat) : (rng c).Pairwise (fun a b => a.2 < b.1) := by
  match c with
  | 0 => decide
  | 1 => decide
  | 2 => decide
  | 3 => decide
  | 4 => decide
  | 5 => decide
  | n + 6 => simp [rng]

theorem isC_iff (c r : Nat) : isC c r = true ↔ ∃ s ∈ rng c, s.1 ≤ r ∧ r ≤ s.2 := isIn_iff r _ (rng_sorted c)

theorem begins_ascii (c : Nat) (x : UInt8) (hx : x.toNat < 128) : begins c [x] = isC c x.toNat := by
  have hl : lead x.toNat = some (1, x.toNat, 0) := by unfold lead; rw [if_pos hx]
  have e : begins c [x] = meets x.toNat x.toNat (rng c) := by
    unfold begins
    rw [reach_eq (t := []) hl (k := 0) rfl]
    simp only [conts, val, if_true, Nat.pow_zero, Nat.mul_one, Nat.sub_self, Nat.add_zero, Nat.max_zero]
    rw [Nat.min_eq_left (by omega)]
  rw [e, Bool.eq_iff_iff, isC_iff, meets_iff_mem]
  constructor
  · rintro ⟨r, h1, h2, s, hs, h3, h4⟩; exact ⟨s, hs, by omega, by omega⟩
  · rintro ⟨s, hs, h3, h4⟩; exact ⟨x.toNat, by omega, by omega, s, hs, h3, h4⟩

theorem whole_one (x : UInt8) (c : Nat) (hb : begins c [x] = true) : whole [x] = decide (x.toNat < 128) := by
  obtain ⟨wd, l, least, k, hl, hk, _, _⟩ := begins_lead hb
  simp only [whole, width_of hl]
  simp at hk
  unfold lead at hl
  split at hl
  · rename_i h; simp at hl; simp [h, hl.1.symm]
  · rename_i h
    rw [Bool.eq_iff_iff]
    simp only [List.length_nil, Nat.zero_add, decide_eq_true_eq]
    repeat' split at hl
    all_goals simp at hl
    all_goals omega

theorem isC_ascii (c : Nat) (x : UInt8) (h : isC c x.toNat = true) (hx : x.toNat < 128) : begins c [x] = true ∧ whole [x] = true := by
  have hb : begins c [x] = true := by rw [begins_ascii c x hx]; exact h
  exact ⟨hb, by rw [whole_one x c hb]; simpa using hx⟩

/-! ### what holds of every state that is reached -/
def K.ok (s : K) : Prop :=
  (s.pend ≠ [] → ∃ c, s.cls = some c ∧ begins c s.pend = true ∧ whole s.pend = false) ∧
  (s.opn ≠ [] → s.root = true) ∧
  match s.st with
  | .literal k => 1 ≤ k ∧ k ≤ 6
  | .named q t => s.root = true ∧ (∀ x, q = some x → x = 34 ∨ x = 39) ∧ ∃ m ∈ names, t <+: m
  | .hash q => s.root = true ∧ ∀ x, q = some x → x = 34 ∨ x = 39
  | .number q _ v n => s.root = true ∧ (∀ x, q = some x → x = 34 ∨ x = 39) ∧ v ≤ 0x10FFFF ∧ (n = 0 → v = 0)
  | .attrName => s.root = true ∧ nscan [] 2 s.attr = some ([], 3)
  | .value q => s.root = true ∧ (q = 34 ∨ q = 39)
  | .tagName | .inTag | .valued | .attrEnd | .equals | .slash | .endName _ => s.root = true
  | _ => True

theorem ok_init : K.init.ok := ⟨fun h => absurd rfl h, fun h => absurd rfl h, trivial⟩

/-- the state stands between characters, in a state of its own -/
theorem ok_pend_nil {s : K} (h : s.ok) (hp : s.pend = []) : (s.opn ≠ [] → s.root = true) := h.2.1

/-- a name's bytes so far -/
theorem nscan_pend {s : K} (h : s.ok) (hs : s.st = .attrName) : nscan [] 2 (s.attr ++ s.pend) = some (s.pend, 3) := by
  obtain ⟨h1, _, h3⟩ := h
  rw [hs] at h3
  simp only at h3
  rw [nscan_append, h3.2]
  simp only [Option.bind_some]
  by_cases hp : s.pend = []
  · rw [hp]; rfl
  · obtain ⟨c, hc, hb, hw⟩ := h1 hp
    have : c = 3 := by simp [K.cls, hs] at hc; exact hc.symm
    subst this
    exact nscan_part 3 s.pend [] hb hw
where
  nscan_part (c : Nat) : ∀ (b a : Bs), begins c (a ++ b) = true → whole (a ++ b) = false → nscan a c b = some (a ++ b, c) := by
    intro b
    induction b with
    | nil => intro a _ _; simp [nscan]
    | cons x b ih =>
      intro a hb hw
      have e : a ++ x :: b = (a ++ [x]) ++ b := by simp
      rw [e] at hb hw
      have hfront : begins c (a ++ [x]) = true ∧ (b ≠ [] → whole (a ++ [x]) = false) := front c b (a ++ [x]) (by simp) hb
      have hwx : whole (a ++ [x]) = false := by
        by_cases hbn : b = []
        · subst hbn; simpa using hw
        · exact hfront.2 hbn
      simp only [nscan, hfront.1, hwx, if_true, Bool.false_eq_true, if_false]
      rw [ih (a ++ [x]) hb hw, e]
  front (c : Nat) : ∀ (b a : Bs), a ≠ [] → begins c (a ++ b) = true → begins c a = true ∧ (b ≠ [] → whole a = false) := by
    intro b
    induction b with
    | nil => intro a _ h; exact ⟨by simpa using h, fun h => absurd rfl h⟩
    | cons x b ih =>
      intro a ha h
      have e : a ++ x :: b = (a ++ [x]) ++ b := by simp
      rw [e] at h
      have h1 := (ih (a ++ [x]) (by simp) h).1
      have h2 := begins_front ha h1
      exact ⟨h2.1, fun _ => h2.2⟩

theorem nscan_part (c : Nat) : ∀ (b a : Bs), begins c (a ++ b) = true → whole (a ++ b) = false → nscan a c b = some (a ++ b, c) := nscan_pend.nscan_part c

theorem closing_len : ∀ (nm : Bs) (o : List Bs), (closing (nm :: o)).length = nm.length + 3 + (closing o).length := by
  intro nm o; simp [closing]; omega

theorem toNat_eq {x y : UInt8} : x = y ↔ x.toNat = y.toNat := by rw [← UInt8.toNat_inj]

/-- what stands behind the character at hand, whichever it is -/
def K.later (s : K) : Bs := match s.st with
  | .between _ => closing s.opn ++ (if !s.root then [60, 65, 47, 62] else [])
  | .less => [47, 62] ++ closing s.opn
  | .comment _ => [45, 45, 62] ++ closing s.opn ++ (if !s.root then [60, 65, 47, 62] else [])
  | .section_ _ => [93, 93, 62] ++ closing s.opn ++ (if !s.root then [60, 65, 47, 62] else [])
  | .tagName => [47, 62] ++ closing s.opn ++ (if !s.root then [60, 65, 47, 62] else [])
  | .value q => [q, 47, 62] ++ closing s.opn ++ (if !s.root then [60, 65, 47, 62] else [])
  | _ => []

def K.plain (s : K) : Prop := match s.st with
  | .between _ | .less | .comment _ | .section_ _ | .tagName | .value _ => True
  | _ => False

theorem rest_took {s : K} (hs : s.plain) (p : Bs) : (s.took p).rest = s.later := by
  obtain ⟨st, pend, opn, root, name, had, attr⟩ := s
  cases st <;> simp [K.plain] at hs <;> simp [K.took, K.later, K.rest, K.within, K.left, K.rootless, K.cls]

theorem rest_pend {s : K} (hs : s.plain) {c : Nat} (hc : s.cls = some c) (hp : s.pend ≠ []) : s.rest = compl c s.pend ++ s.later := by
  obtain ⟨st, pend, opn, root, name, had, attr⟩ := s
  cases pend with
  | nil => exact absurd rfl hp
  | cons x t =>
    cases st <;> simp [K.plain] at hs <;> simp only [K.later, K.rest, K.within, K.left, K.rootless, hc] <;> (try cases opn) <;> simp

theorem later_le {s : K} (ho : s.ok) (hs : s.plain) {c : Nat} (hc : s.cls = some c) (hp : s.pend = []) : s.rest.length ≤ s.later.length + 1 := by
  obtain ⟨st, pend, opn, root, name, had, attr⟩ := s
  subst hp
  cases st with
  | between n => simp [K.later, K.rest, K.within, K.left, K.rootless]
  | less =>
    cases opn with
    | nil =>
      simp [K.cls] at hc
      simp [K.later, K.rest, K.within, K.left, K.rootless, hc.1, closing]
    | cons nm o => simp [K.later, K.rest, K.within, K.left, K.rootless, closing]
  | comment n => simp [K.later, K.rest, K.within, K.left, K.rootless, K.cls]; omega
  | section_ n => simp [K.later, K.rest, K.within, K.left, K.rootless, K.cls]; omega
  | tagName => simp [K.later, K.rest, K.within, K.left, K.rootless, K.cls]
  | value q => simp [K.later, K.rest, K.within, K.left, K.rootless, K.cls]
  | _ => simp [K.plain] at hs

/-! ### a step lowers what ends the state by at most that byte -/
theorem tagRest_back (s : K) (q : Back) (hp : s.pend = []) (hst : ∀ n, s.st ≠ .endName n) (hl : s.st ≠ .less) :
    (s.back q).rest = tagRest q ++ closing s.opn ++ (if !s.root then [60, 65, 47, 62] else []) := by
  obtain ⟨st, pend, opn, root, name, had, attr⟩ := s
  subst hp
  cases q <;> simp [K.back, K.rest, K.within, K.left, K.rootless, tagRest, K.cls]

theorem back_ok {s : K} (h : s.ok) (hp : s.pend = []) (hr : s.root = true) {q : Back} (hq : ∀ x, q = some x → x = 34 ∨ x = 39) : (s.back q).ok := by
  obtain ⟨_, h2, _⟩ := h
  cases q with
  | none => exact ⟨fun hn => absurd hp hn, h2, trivial⟩
  | some x => exact ⟨fun hn => absurd hp hn, h2, hr, hq x rfl⟩

def lexB : Bs → Bs → Bool
  | [], _ => true
  | _ :: _, [] => false
  | x :: a, y :: b => decide (x.toNat < y.toNat) || (decide (x.toNat = y.toNat) && lexB a b)
def slB (a b : Bs) : Bool := decide (a.length < b.length) || (decide (a.length = b.length) && lexB a b)
theorem lexB_sound : ∀ {a b : Bs}, lexB a b = true → lexLE a b
  | [], _, _ => trivial
  | _ :: _, [], h => by simp [lexB] at h
  | x :: a, y :: b, h => by
    simp only [lexB, Bool.or_eq_true, Bool.and_eq_true, decide_eq_true_eq] at h
    rcases h with h | ⟨h, h'⟩
    · exact .inl h
    · exact .inr ⟨by rw [← UInt8.toNat_inj]; exact h, lexB_sound h'⟩
theorem slB_sound {a b : Bs} (h : slB a b = true) : SL a b := by
  simp only [slB, Bool.or_eq_true, Bool.and_eq_true, decide_eq_true_eq] at h
  rcases h with h | ⟨h, h'⟩
  · exact .inl h
  · exact .inr ⟨h, lexB_sound h'⟩

def namedRest (t : Bs) : Bs := if t = [] then [35, 57, 59] else leastLeft t namesS []

/-- the finite look: what is left of a reference's name is the least -/
theorem named_look : ∀ m ∈ names, ∀ k : Fin 6, ∀ n : Fin 256, names.any (fun m' => (m.take k ++ [UInt8.ofNat n]).isPrefixOf m') = true →
    slB (namedRest (m.take k)) (UInt8.ofNat n :: namedRest (m.take k ++ [UInt8.ofNat n])) = true := by
  decide +kernel
/-- and its first byte goes on -/
theorem named_first : ∀ m ∈ names, ∀ k : Fin 6, m.take k = [] ∨ (m.take k ∈ names ∧ namedRest (m.take k) = [59]) ∨
    (names.any (fun m' => (m.take k ++ [(namedRest (m.take k)).headD 0]).isPrefixOf m') = true ∧ (namedRest (m.take k)).headD 0 ≠ 59 ∧ (namedRest (m.take k)).headD 0 ≠ 35 ∧ ((namedRest (m.take k)).headD 0).toNat < 128 ∧
      namedRest (m.take k) = (namedRest (m.take k)).headD 0 :: namedRest (m.take k ++ [(namedRest (m.take k)).headD 0])) := by
  decide +kernel
theorem names_end : ∀ m ∈ names, namedRest m = [59] ∧ m ≠ [] := by decide +kernel

theorem pre_take {t m : Bs} (hm : m ∈ names) (h : t <+: m) : ∃ k : Fin 6, t = m.take k := by
  have hl : t.length ≤ m.length := h.length_le
  have h4 : ∀ m ∈ names, m.length ≤ 4 := by decide
  have := h4 m hm
  exact ⟨⟨t.length, by omega⟩, (List.prefix_iff_eq_take.1 h)⟩
theorem named_step {t m : Bs} (hm : m ∈ names) (h : t <+: m) (x : UInt8) (hx : names.any (fun m' => (t ++ [x]).isPrefixOf m') = true) :
    SL (namedRest t) (x :: namedRest (t ++ [x])) := by
  obtain ⟨k, rfl⟩ := pre_take hm h
  have e : UInt8.ofNat (⟨x.toNat, x.toNat_lt⟩ : Fin 256) = x := by simp
  have := named_look m hm k ⟨x.toNat, x.toNat_lt⟩
  rw [e] at this
  exact slB_sound (this hx)
theorem named_cons {t m : Bs} (hm : m ∈ names) (h : t <+: m) (ht : t ≠ []) : (t ∈ names ∧ namedRest t = [59]) ∨
    ∃ y, names.any (fun m' => (t ++ [y]).isPrefixOf m') = true ∧ y ≠ 59 ∧ y ≠ 35 ∧ y.toNat < 128 ∧ namedRest t = y :: namedRest (t ++ [y]) := by
  obtain ⟨k, rfl⟩ := pre_take hm h
  rcases named_first m hm k with h | h | ⟨h1, h2, h3, h4, h5⟩
  · exact absurd h ht
  · exact .inl h
  · exact .inr ⟨_, h1, h2, h3, h4, h5⟩

theorem any_prefix {t : Bs} (h : names.any (fun m' => t.isPrefixOf m') = true) : ∃ m ∈ names, t <+: m := by
  obtain ⟨m, hm, h⟩ := List.any_eq_true.1 h
  exact ⟨m, hm, List.isPrefixOf_iff_prefix.1 h⟩

end Gm
