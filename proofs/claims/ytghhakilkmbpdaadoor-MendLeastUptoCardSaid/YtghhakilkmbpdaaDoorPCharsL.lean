/- Plain Lean, no program: laws of the classes of characters and of what completes a character. -/
import Derived.Test.YtghhakilkmbpdaaDoorPChars
namespace Gm

/-! ### order: the shorter, and of those as long the lesser -/
def lexLE : Bs → Bs → Prop
  | [], _ => True
  | _ :: _, [] => False
  | x :: a, y :: b => x.toNat < y.toNat ∨ (x = y ∧ lexLE a b)

def SL (a b : Bs) : Prop := a.length < b.length ∨ (a.length = b.length ∧ lexLE a b)

theorem lexLE.refl : ∀ a, lexLE a a
  | [] => trivial
  | _ :: a => .inr ⟨rfl, lexLE.refl a⟩

theorem lexLE.trans : ∀ {a b c : Bs}, lexLE a b → lexLE b c → lexLE a c
  | [], _, _, _, _ => trivial
  | _ :: _, [], _, h, _ => h.elim
  | _ :: _, _ :: _, [], _, h => h.elim
  | x :: a, y :: b, z :: c, h, k => by
    rcases h with h | ⟨rfl, h⟩
    · rcases k with k | ⟨rfl, k⟩
      · exact .inl (by omega)
      · exact .inl h
    · rcases k with k | ⟨rfl, k⟩
      · exact .inl k
      · exact .inr ⟨rfl, lexLE.trans h k⟩

theorem SL.refl (a : Bs) : SL a a := .inr ⟨rfl, lexLE.refl a⟩
theorem SL.trans {a b c : Bs} (h : SL a b) (k : SL b c) : SL a c := by
  rcases h with h | ⟨h, h'⟩ <;> rcases k with k | ⟨k, k'⟩
  · exact .inl (by omega)
  · exact .inl (by omega)
  · exact .inl (by omega)
  · exact .inr ⟨by omega, h'.trans k'⟩
theorem SL.cons {a b : Bs} (x : UInt8) (h : SL a b) : SL (x :: a) (x :: b) := by
  rcases h with h | ⟨h, h'⟩
  · exact .inl (by simpa using h)
  · exact .inr ⟨by simpa using h, .inr ⟨rfl, h'⟩⟩
theorem lexLE.append : ∀ {a b : Bs} (c : Bs), a.length = b.length → lexLE a b → lexLE (a ++ c) (b ++ c)
  | [], [], c, _, _ => lexLE.refl c
  | [], _ :: _, _, h, _ => by simp at h
  | _ :: _, [], _, h, _ => by simp at h
  | x :: a, y :: b, c, hl, h => by
    rcases h with h | ⟨rfl, h⟩
    · exact .inl h
    · exact .inr ⟨rfl, lexLE.append c (by simpa using hl) h⟩
theorem SL.append {a b : Bs} (c : Bs) (h : SL a b) : SL (a ++ c) (b ++ c) := by
  rcases h with h | ⟨h, h'⟩
  · exact .inl (by simpa using h)
  · exact .inr ⟨by simpa using h, h'.append c h⟩
theorem SL.of_lt {a b : Bs} (h : a.length < b.length) : SL a b := .inl h
theorem lexLE.antisymm : ∀ {a b : Bs}, a.length = b.length → lexLE a b → lexLE b a → a = b
  | [], [], _, _, _ => rfl
  | [], _ :: _, h, _, _ => by simp at h
  | _ :: _, [], h, _, _ => by simp at h
  | x :: a, y :: b, hl, h, k => by
    rcases h with h | ⟨rfl, h⟩
    · rcases k with k | ⟨rfl, k⟩
      · omega
      · omega
    · rcases k with k | ⟨_, k⟩
      · omega
      · rw [lexLE.antisymm (by simpa using hl) h k]
theorem SL.antisymm {a b : Bs} (h : SL a b) (k : SL b a) : a = b := by
  rcases h with h | ⟨h, h'⟩ <;> rcases k with k | ⟨k, k'⟩
  · omega
  · omega
  · omega
  · exact lexLE.antisymm h h' k'

/-! ### firstOf -/
theorem firstOf_some {α : Type} (f : UInt8 → Option α) : ∀ (n k : Nat), k + n ≤ 256 → ∀ x a, firstOf f n k = some (x, a) →
    f x = some a ∧ k ≤ x.toNat ∧ x.toNat < k + n ∧ ∀ y : UInt8, k ≤ y.toNat → y.toNat < x.toNat → f y = none := by
  intro n
  induction n with
  | zero => intro k _ x a h; simp [firstOf] at h
  | succ n ih =>
    intro k hk x a h
    simp only [firstOf] at h
    have hkk : (UInt8.ofNat k).toNat = k := by simp; omega
    cases hf : f (UInt8.ofNat k) with
    | some b =>
      rw [hf] at h
      simp only [Option.some.injEq, Prod.mk.injEq] at h
      obtain ⟨rfl, rfl⟩ := h
      exact ⟨hf, by omega, by omega, fun y h1 h2 => by omega⟩
    | none =>
      rw [hf] at h
      obtain ⟨h1, h2, h3, h4⟩ := ih (k + 1) (by omega) x a h
      refine ⟨h1, by omega, by omega, fun y hy1 hy2 => ?_⟩
      by_cases e : y.toNat = k
      · have : y = UInt8.ofNat k := by rw [← UInt8.toNat_inj, hkk]; exact e
        rw [this]; exact hf
      · exact h4 y (by omega) hy2

theorem firstOf_none {α : Type} (f : UInt8 → Option α) : ∀ (n k : Nat), k + n ≤ 256 → firstOf f n k = none → ∀ y : UInt8, k ≤ y.toNat → y.toNat < k + n → f y = none := by
  intro n
  induction n with
  | zero => intro k _ _ y h1 h2; omega
  | succ n ih =>
    intro k hk h y h1 h2
    simp only [firstOf] at h
    have hkk : (UInt8.ofNat k).toNat = k := by simp; omega
    cases hf : f (UInt8.ofNat k) with
    | some b => rw [hf] at h; simp at h
    | none =>
      rw [hf] at h
      by_cases e : y.toNat = k
      · have : y = UInt8.ofNat k := by rw [← UInt8.toNat_inj, hkk]; exact e
        rw [this]; exact hf
      · exact ih (k + 1) (by omega) h y (by omega) (by omega)

theorem first256 {α : Type} {f : UInt8 → Option α} {x : UInt8} {a : α} (h : firstOf f 256 0 = some (x, a)) : f x = some a ∧ ∀ y : UInt8, y.toNat < x.toNat → f y = none := by
  obtain ⟨h1, _, _, h4⟩ := firstOf_some f 256 0 (by omega) x a h
  exact ⟨h1, fun y hy => h4 y (by omega) hy⟩
theorem none256 {α : Type} {f : UInt8 → Option α} (h : firstOf f 256 0 = none) (y : UInt8) : f y = none :=
  firstOf_none f 256 0 (by omega) h y (by omega) (by have := y.toNat_lt; omega)

/-! ### a character's bytes -/
def val : Bs → Nat → Nat
  | [], v => v
  | y :: t, v => val t (v * 64 + y.toNat % 64)

def conts : Bs → Bool
  | [] => true
  | y :: t => decide (y.toNat / 64 = 2) && conts t

theorem tailing_nil : ∀ (k lo hi : Nat), tailing k [] lo hi = some (lo * 64 ^ k, hi * 64 ^ k + (64 ^ k - 1)) := by
  intro k
  induction k with
  | zero => intro lo hi; simp [tailing]
  | succ k ih =>
    intro lo hi
    simp only [tailing, ih]
    have hp : 0 < 64 ^ k := Nat.pow_pos (by omega)
    have e : 64 ^ (k + 1) = 64 * 64 ^ k := by rw [Nat.pow_succ]; omega
    rw [e]
    have e2 : (hi * 64 + 63) * 64 ^ k = hi * (64 * 64 ^ k) + 63 * 64 ^ k := by rw [Nat.add_mul, Nat.mul_assoc]
    have e3 : lo * 64 * 64 ^ k = lo * (64 * 64 ^ k) := Nat.mul_assoc ..
    rw [e2, e3]
    generalize 64 ^ k = p at *
    simp only [Option.some.injEq, Prod.mk.injEq, true_and]
    omega

theorem tailing_eq : ∀ (t : Bs) (k v : Nat), tailing (t.length + k) t v v = if conts t then some (val t v * 64 ^ k, val t v * 64 ^ k + (64 ^ k - 1)) else none := by
  intro t
  induction t with
  | nil => intro k v; simp [tailing_nil, conts, val]
  | cons y t ih =>
    intro k v
    have e : (y :: t).length + k = (t.length + k) + 1 := by simp; omega
    rw [e]
    simp only [tailing, conts, val]
    by_cases h : y.toNat / 64 = 2
    · rw [if_pos h, ih]; simp [h]
    · rw [if_neg h]; simp [h]

theorem val_snoc : ∀ (t : Bs) (y : UInt8) (v : Nat), val (t ++ [y]) v = val t v * 64 + y.toNat % 64 := by
  intro t
  induction t with
  | nil => intro y v; rfl
  | cons z t ih => intro y v; simp only [List.cons_append, val, ih]
theorem conts_snoc : ∀ (t : Bs) (y : UInt8), conts (t ++ [y]) = (conts t && decide (y.toNat / 64 = 2)) := by
  intro t
  induction t with
  | nil => intro y; simp [conts]
  | cons z t ih => intro y; simp only [List.cons_append, conts, ih, Bool.and_assoc]

/-- the least and the greatest character, of bytes that leave k bytes to come -/
theorem reach_eq {x : UInt8} {t : Bs} {wd l least : Nat} (hl : lead x.toNat = some (wd, l, least)) {k : Nat} (hk : t.length + k + 1 = wd) :
    reach (x :: t) = if conts t then some (max (val t l * 64 ^ k) least, min (val t l * 64 ^ k + (64 ^ k - 1)) 0x10FFFF) else none := by
  simp only [reach, hl]
  rw [if_neg (by omega), show wd - 1 = t.length + k by omega, tailing_eq]
  split <;> simp

theorem reach_long {x : UInt8} {t : Bs} {wd l least : Nat} (hl : lead x.toNat = some (wd, l, least)) (hk : wd ≤ t.length) : reach (x :: t) = none := by
  simp only [reach, hl]
  rw [if_pos hk]

theorem meets_iff (lo hi : Nat) : ∀ l, meets lo hi l = true ↔ ∃ s ∈ l, max lo s.1 ≤ min hi s.2 := by
  intro l
  induction l with
  | nil => simp [meets]
  | cons s t ih =>
    simp only [meets]
    split
    · rename_i h; simp; exact .inl (by omega)
    · rename_i h
      rw [ih]
      constructor
      · rintro ⟨s', hs, h'⟩; exact ⟨s', List.mem_cons_of_mem _ hs, h'⟩
      · rintro ⟨s', hs, h'⟩
        rcases List.mem_cons.1 hs with rfl | hs
        · exact (h h').elim
        · exact ⟨s', hs, h'⟩

theorem meets_iff_mem (lo hi : Nat) (l : List (Nat × Nat)) : meets lo hi l = true ↔ ∃ r, lo ≤ r ∧ r ≤ hi ∧ ∃ s ∈ l, s.1 ≤ r ∧ r ≤ s.2 := by
  rw [meets_iff]
  constructor
  · rintro ⟨s, hs, h⟩
    exact ⟨max lo s.1, by omega, by omega, s, hs, by omega, by omega⟩
  · rintro ⟨r, h1, h2, s, hs, h3, h4⟩
    exact ⟨s, hs, by omega⟩

theorem begins_ne {c : Nat} {p : Bs} (h : begins c p = true) : p ≠ [] := by
  rintro rfl; simp [begins, reach] at h

theorem width_of {x : UInt8} {wd l least : Nat} (hl : lead x.toNat = some (wd, l, least)) : width x = wd := by simp [width, hl]

/-- of bytes that begin a character: the lead byte's facts -/
theorem begins_lead {c : Nat} {x : UInt8} {t : Bs} (h : begins c (x :: t) = true) :
    ∃ wd l least k, lead x.toNat = some (wd, l, least) ∧ t.length + k + 1 = wd ∧ conts t = true ∧
      meets (max (val t l * 64 ^ k) least) (min (val t l * 64 ^ k + (64 ^ k - 1)) 0x10FFFF) (rng c) = true := by
  cases hl : lead x.toNat with
  | none => simp [begins, reach, hl] at h
  | some q =>
    obtain ⟨wd, l, least⟩ := q
    by_cases hk : wd ≤ t.length
    · simp [begins, reach_long hl hk] at h
    · obtain ⟨k, hk⟩ : ∃ k, t.length + k + 1 = wd := ⟨wd - t.length - 1, by omega⟩
      have e := reach_eq hl hk
      unfold begins at h
      rw [e] at h
      cases hc : conts t with
      | false => simp [hc] at h
      | true => rw [hc] at h; exact ⟨wd, l, least, k, rfl, hk, rfl, by simpa using h⟩

theorem begins_mk {c : Nat} {x : UInt8} {t : Bs} {wd l least k : Nat} (hl : lead x.toNat = some (wd, l, least)) (hk : t.length + k + 1 = wd) (hc : conts t = true)
    (hm : meets (max (val t l * 64 ^ k) least) (min (val t l * 64 ^ k + (64 ^ k - 1)) 0x10FFFF) (rng c) = true) : begins c (x :: t) = true := by
  unfold begins
  rw [reach_eq hl hk, hc]
  simpa using hm

theorem lead_le {x : Nat} {wd l least : Nat} (hl : lead x = some (wd, l, least)) : 1 ≤ wd ∧ wd ≤ 4 := by
  unfold lead at hl
  repeat' split at hl
  all_goals simp at hl
  all_goals omega

/-- bytes that begin a character of the class and are not whole go on -/
theorem begins_next {c : Nat} {p : Bs} (h : begins c p = true) (hw : whole p = false) : ∃ y, begins c (p ++ [y]) = true := by
  cases p with
  | nil => exact absurd rfl (begins_ne h)
  | cons x t =>
    obtain ⟨wd, l, least, k, hl, hk, hc, hm⟩ := begins_lead h
    have hk0 : k ≠ 0 := by
      rintro rfl
      simp [whole, width_of hl] at hw
      omega
    obtain ⟨j, rfl⟩ : ∃ j, k = j + 1 := ⟨k - 1, by omega⟩
    obtain ⟨r, h1, h2, s, hs, h3, h4⟩ := (meets_iff_mem _ _ _).1 hm
    have hp : 0 < 64 ^ j := Nat.pow_pos (by omega)
    have e : 64 ^ (j + 1) = 64 ^ j * 64 := Nat.pow_succ ..
    rw [e] at h1 h2
    have hmul : val t l * (64 ^ j * 64) = (val t l * 64) * 64 ^ j := by rw [Nat.mul_comm (64 ^ j), Nat.mul_assoc]
    rw [hmul] at h1 h2
    let d := r / 64 ^ j % 64
    refine ⟨UInt8.ofNat (128 + d), ?_⟩
    have hd : d < 64 := Nat.mod_lt _ (by omega)
    have hy : (UInt8.ofNat (128 + d)).toNat = 128 + d := by simp; omega
    have hv : val t l * 64 + d = r / 64 ^ j := by
      have a1 : val t l * 64 ≤ r / 64 ^ j := (Nat.le_div_iff_mul_le hp).2 (by omega)
      have a2 : r / 64 ^ j < val t l * 64 + 64 := by
        rw [Nat.div_lt_iff_lt_mul hp, Nat.add_mul]
        have : 64 ^ j * 64 = 64 * 64 ^ j := Nat.mul_comm ..
        omega
      show val t l * 64 + r / 64 ^ j % 64 = r / 64 ^ j
      omega
    have hdm := Nat.div_add_mod r (64 ^ j)
    have hml := Nat.mod_lt r hp
    rw [List.cons_append]
    refine begins_mk hl (k := j) (by simp; omega) (by rw [conts_snoc, hc, hy]; simp; omega) ?_
    rw [val_snoc, hy, show (128 + d) % 64 = d by omega, hv]
    have hcm : r / 64 ^ j * 64 ^ j = 64 ^ j * (r / 64 ^ j) := Nat.mul_comm ..
    exact (meets_iff_mem _ _ _).2 ⟨r, by rw [hcm]; omega, by rw [hcm]; omega, s, hs, h3, h4⟩

/-- the front of bytes that begin a character begins it -/
theorem begins_front {c : Nat} {p : Bs} {y : UInt8} (hp0 : p ≠ []) (h : begins c (p ++ [y]) = true) : begins c p = true ∧ whole p = false := by
  cases p with
  | nil => exact absurd rfl hp0
  | cons x t =>
    rw [List.cons_append] at h
    obtain ⟨wd, l, least, k, hl, hk, hc, hm⟩ := begins_lead h
    rw [conts_snoc] at hc
    simp only [Bool.and_eq_true, decide_eq_true_eq] at hc
    have hk' : t.length + (k + 1) + 1 = wd := by simp at hk; omega
    refine ⟨begins_mk hl hk' hc.1 ?_, by simp [whole, width_of hl]; omega⟩
    rw [val_snoc] at hm
    obtain ⟨r, h1, h2, s, hs, h3, h4⟩ := (meets_iff_mem _ _ _).1 hm
    have hp : 0 < 64 ^ k := Nat.pow_pos (by omega)
    have e : 64 ^ (k + 1) = 64 * 64 ^ k := by rw [Nat.pow_succ]; omega
    have e1 : (val t l * 64 + y.toNat % 64) * 64 ^ k = val t l * (64 * 64 ^ k) + y.toNat % 64 * 64 ^ k := by rw [Nat.add_mul, Nat.mul_assoc]
    have hy : y.toNat % 64 * 64 ^ k + 64 ^ k ≤ 64 * 64 ^ k := by
      have : y.toNat % 64 + 1 ≤ 64 := by omega
      have := Nat.mul_le_mul_right (64 ^ k) this
      rw [Nat.add_mul] at this; omega
    rw [e1] at h1 h2
    refine (meets_iff_mem _ _ _).2 ⟨r, ?_, ?_, s, hs, h3, h4⟩
    · rw [e]; omega
    · rw [e]; omega

theorem whole_len {c : Nat} {p : Bs} (h : begins c p = true) (hw : whole p = false) : ∀ {y}, begins c (p ++ [y]) = true → (whole (p ++ [y]) = true ↔ p.length + 1 = width (p.headD 0)) := by
  intro y _
  cases p with
  | nil => exact absurd rfl (begins_ne h)
  | cons x t => simp [whole]

/-- so many bytes are left -/
def toCome : Bs → Nat
  | [] => 0
  | x :: t => width x - (t.length + 1)

theorem toCome_zero {c : Nat} {p : Bs} (h : begins c p = true) : toCome p = 0 ↔ whole p = true := by
  cases p with
  | nil => exact absurd rfl (begins_ne h)
  | cons x t =>
    obtain ⟨wd, l, least, k, hl, hk, _, _⟩ := begins_lead h
    simp [toCome, whole, width_of hl]; omega
theorem toCome_snoc {p : Bs} (hp : p ≠ []) (y : UInt8) : toCome (p ++ [y]) = toCome p - 1 := by
  cases p with
  | nil => exact absurd rfl hp
  | cons x t => simp [toCome]; omega
theorem toCome_le {c : Nat} {p : Bs} (h : begins c p = true) : toCome p ≤ 3 := by
  cases p with
  | nil => exact absurd rfl (begins_ne h)
  | cons x t =>
    obtain ⟨wd, l, least, k, hl, hk, _, _⟩ := begins_lead h
    have := lead_le hl
    simp [toCome, width_of hl]; omega

theorem complN_len (c : Nat) : ∀ (n : Nat) (p : Bs), begins c p = true → toCome p ≤ n → (complN c n p).length = toCome p := by
  intro n
  induction n with
  | zero => intro p h hn; simp [complN]; omega
  | succ n ih =>
    intro p h hn
    simp only [complN]
    cases hw : whole p with
    | true => simp; rw [(toCome_zero h).2 hw]
    | false =>
      simp only [Bool.false_eq_true, if_false]
      cases hf : firstOf (fun x => if begins c (p ++ [x]) = true then some () else none) 256 0 with
      | none =>
        obtain ⟨y, hy⟩ := begins_next h hw
        have := none256 hf y
        simp [hy] at this
      | some q =>
        obtain ⟨x, u⟩ := q
        have hb : begins c (p ++ [x]) = true := by
          have := (first256 hf).1
          by_cases e : begins c (p ++ [x]) = true
          · exact e
          · simp [e] at this
        have hz : toCome p ≠ 0 := fun e => by rw [(toCome_zero h).1 e] at hw; exact absurd hw (by simp)
        simp only [List.length_cons, ih _ hb (by rw [toCome_snoc (begins_ne h)]; omega), toCome_snoc (begins_ne h)]
        omega

theorem complN_more (c : Nat) : ∀ (n m : Nat) (p : Bs), begins c p = true → toCome p ≤ n → toCome p ≤ m → complN c n p = complN c m p := by
  intro n
  induction n with
  | zero =>
    intro m p h hn hm
    have hw := (toCome_zero h).1 (by omega)
    cases m with
    | zero => rfl
    | succ m => simp [complN, hw]
  | succ n ih =>
    intro m p h hn hm
    cases m with
    | zero =>
      have hw := (toCome_zero h).1 (by omega)
      simp [complN, hw]
    | succ m =>
      simp only [complN]
      cases hw : whole p with
      | true => simp
      | false =>
        simp only [Bool.false_eq_true, if_false]
        cases hf : firstOf (fun x => if begins c (p ++ [x]) = true then some () else none) 256 0 with
        | none => rfl
        | some q =>
          obtain ⟨x, u⟩ := q
          have hb : begins c (p ++ [x]) = true := by
            have := (first256 hf).1
            by_cases e : begins c (p ++ [x]) = true
            · exact e
            · simp [e] at this
          simp only [ih m _ hb (by rw [toCome_snoc (begins_ne h)]; omega) (by rw [toCome_snoc (begins_ne h)]; omega)]

theorem compl_whole {c : Nat} {p : Bs} (hw : whole p = true) : compl c p = [] := by simp [compl, complN, hw]

theorem compl_len {c : Nat} {p : Bs} (h : begins c p = true) : (compl c p).length = toCome p :=
  complN_len c 4 p h (by have := toCome_le h; omega)

/-- what completes: its first byte goes on, the others complete that; and it is the least that goes on -/
theorem compl_cons {c : Nat} {p : Bs} (h : begins c p = true) (hw : whole p = false) :
    ∃ y, begins c (p ++ [y]) = true ∧ compl c p = y :: compl c (p ++ [y]) ∧ ∀ x, begins c (p ++ [x]) = true → y.toNat ≤ x.toNat := by
  cases hf : firstOf (fun x => if begins c (p ++ [x]) = true then some () else none) 256 0 with
  | none =>
    obtain ⟨y, hy⟩ := begins_next h hw
    have := none256 hf y
    simp [hy] at this
  | some q =>
    obtain ⟨y, u⟩ := q
    have h1 := (first256 hf).1
    have hb : begins c (p ++ [y]) = true := by
      by_cases e : begins c (p ++ [y]) = true
      · exact e
      · simp [e] at h1
    refine ⟨y, hb, ?_, fun x hx => ?_⟩
    · unfold compl
      rw [complN, hw]
      simp only [Bool.false_eq_true, if_false, hf]
      rw [complN_more c 3 4 _ hb (by rw [toCome_snoc (begins_ne h)]; have := toCome_le h; omega) (by have := toCome_le hb; omega)]
    · have h2 := (first256 hf).2
      rcases Nat.lt_or_ge x.toNat y.toNat with hlt | hge
      · have := h2 x hlt
        simp [hx] at this
      · exact hge

/-- no other completion is lesser -/
theorem compl_least {c : Nat} {p : Bs} (h : begins c p = true) (hw : whole p = false) {x : UInt8} (hx : begins c (p ++ [x]) = true) :
    SL (compl c p) (x :: compl c (p ++ [x])) := by
  obtain ⟨y, hy, e, hle⟩ := compl_cons h hw
  refine .inr ⟨by rw [compl_len h, List.length_cons, compl_len hx, toCome_snoc (begins_ne h)]; have : toCome p ≠ 0 := fun e => by rw [(toCome_zero h).1 e] at hw; exact absurd hw (by simp)
                  omega, ?_⟩
  rw [e]
  rcases Nat.lt_or_ge y.toNat x.toNat with hlt | hge
  · exact .inl hlt
  · have hxy : y = x := by rw [← UInt8.toNat_inj]; have := hle x hx; omega
    subst hxy
    exact .inr ⟨rfl, lexLE.refl _⟩

end Gm
