/- Plain Lean, no program: the searches for digits and for names find the least that serve. -/
import Derived.Test.YtghhakilkmbpdaaDoorPCharsL
import Derived.Test.YtghhakilkmbpdaaDoorPChars
namespace Gm

/-! ### a search by length, then by bytes -/
section
variable {σ : Type} (δ : σ → UInt8 → Option σ) (acc : σ → Prop) (F : Nat → σ → Option Bs)

def Acc : σ → Bs → Prop
  | s, [] => acc s
  | s, x :: t => ∃ s', δ s x = some s' ∧ Acc s' t

structure Finds : Prop where
  zero : ∀ s, (acc s → F 0 s = some []) ∧ (¬ acc s → F 0 s = none)
  succ : ∀ n s, F (n + 1) s = (firstOf (fun x => (δ s x).bind (F n)) 256 0).map fun p => p.1 :: p.2

variable {δ acc F}
theorem find_some (h : Finds δ acc F) : ∀ (n : Nat) (s : σ) (t : Bs), F n s = some t → t.length = n ∧ Acc δ acc s t := by
  intro n
  induction n with
  | zero =>
    intro s t ht
    by_cases ha : acc s
    · rw [(h.zero s).1 ha] at ht; cases ht; exact ⟨rfl, ha⟩
    · rw [(h.zero s).2 ha] at ht; cases ht
  | succ n ih =>
    intro s t ht
    rw [h.succ] at ht
    cases hf : firstOf (fun x => (δ s x).bind (F n)) 256 0 with
    | none => rw [hf] at ht; cases ht
    | some p =>
      rw [hf] at ht
      obtain ⟨x, a⟩ := p
      simp only [Option.map_some, Option.some.injEq] at ht
      subst ht
      have h1 := (first256 hf).1
      cases hd : δ s x with
      | none => rw [hd] at h1; cases h1
      | some s' =>
        rw [hd] at h1
        obtain ⟨e1, e2⟩ := ih s' a h1
        exact ⟨by simp [e1], s', hd, e2⟩

theorem find_none (h : Finds δ acc F) : ∀ (n : Nat) (s : σ), F n s = none → ∀ t, t.length = n → ¬ Acc δ acc s t := by
  intro n
  induction n with
  | zero =>
    intro s hn t ht ha
    obtain rfl := List.length_eq_zero_iff.1 ht
    rw [(h.zero s).1 ha] at hn; cases hn
  | succ n ih =>
    intro s hn t ht ha
    match t, ht with
    | x :: t, ht =>
      obtain ⟨s', hd, ha⟩ := ha
      rw [h.succ] at hn
      have hf : firstOf (fun x => (δ s x).bind (F n)) 256 0 = none := by
        cases hf : firstOf (fun x => (δ s x).bind (F n)) 256 0 with
        | none => rfl
        | some p => rw [hf] at hn; cases hn
      have := none256 hf x
      rw [hd] at this
      exact ih s' this t (by simpa using ht) ha

theorem find_least (h : Finds δ acc F) : ∀ (n : Nat) (s : σ) (t : Bs), F n s = some t → ∀ t', t'.length = n → Acc δ acc s t' → lexLE t t' := by
  intro n
  induction n with
  | zero =>
    intro s t ht t' ht' _
    have := (find_some h 0 s t ht).1
    obtain rfl := List.length_eq_zero_iff.1 this
    trivial
  | succ n ih =>
    intro s t ht t' ht' ha
    match t', ht' with
    | y :: t', ht' =>
      obtain ⟨s', hd, ha⟩ := ha
      rw [h.succ] at ht
      cases hf : firstOf (fun x => (δ s x).bind (F n)) 256 0 with
      | none => rw [hf] at ht; cases ht
      | some p =>
        rw [hf] at ht
        obtain ⟨x, a⟩ := p
        simp only [Option.map_some, Option.some.injEq] at ht
        subst ht
        obtain ⟨h1, h2⟩ := first256 hf
        rcases Nat.lt_or_ge x.toNat y.toNat with hlt | hge
        · exact .inl hlt
        · rcases Nat.lt_or_ge y.toNat x.toNat with hlt | hge'
          · have := h2 y hlt
            rw [hd] at this
            exact absurd ha (find_none h n s' this t' (by simpa using ht'))
          · have hxy : x = y := by rw [← UInt8.toNat_inj]; omega
            subst hxy
            rw [hd] at h1
            exact .inr ⟨rfl, ih s' a h1 t' (by simpa using ht') ha⟩
end

theorem upward_some {α : Type} (f : Nat → Option α) : ∀ (m k : Nat) (a : α), upward f m k = some a → ∃ j, k ≤ j ∧ j < k + m ∧ f j = some a ∧ ∀ i, k ≤ i → i < j → f i = none := by
  intro m
  induction m with
  | zero => intro k a h; simp [upward] at h
  | succ m ih =>
    intro k a h
    simp only [upward] at h
    cases hf : f k with
    | some b => rw [hf] at h; cases h; exact ⟨k, by omega, by omega, hf, fun i h1 h2 => by omega⟩
    | none =>
      rw [hf] at h
      obtain ⟨j, h1, h2, h3, h4⟩ := ih (k + 1) a h
      refine ⟨j, by omega, by omega, h3, fun i hi1 hi2 => ?_⟩
      by_cases e : i = k
      · rw [e]; exact hf
      · exact h4 i (by omega) hi2
theorem upward_none {α : Type} (f : Nat → Option α) : ∀ (m k : Nat), upward f m k = none → ∀ i, k ≤ i → i < k + m → f i = none := by
  intro m
  induction m with
  | zero => intro k _ i h1 h2; omega
  | succ m ih =>
    intro k h i h1 h2
    simp only [upward] at h
    cases hf : f k with
    | some b => rw [hf] at h; cases h
    | none =>
      rw [hf] at h
      by_cases e : i = k
      · rw [e]; exact hf
      · exact ih (k + 1) h i (by omega) (by omega)

/-- the shortest and of these the least -/
theorem upward_least {σ : Type} {δ : σ → UInt8 → Option σ} {acc : σ → Prop} {F : Nat → σ → Option Bs} (h : Finds δ acc F) {s : σ} {m k : Nat} {t : Bs}
    (hu : upward (fun n => F n s) m k = some t) : Acc δ acc s t ∧ k ≤ t.length ∧ ∀ t', k ≤ t'.length → Acc δ acc s t' → SL t t' := by
  obtain ⟨j, h1, h2, h3, h4⟩ := upward_some _ m k t hu
  obtain ⟨e1, e2⟩ := find_some h j s t h3
  refine ⟨e2, by omega, fun t' hk ha => ?_⟩
  rcases Nat.lt_trichotomy t.length t'.length with hlt | heq | hgt
  · exact .inl hlt
  · exact .inr ⟨heq, find_least h j s t h3 t' (by omega) ha⟩
  · exact absurd ha (find_none h t'.length s (h4 _ hk (by omega)) t' rfl)
theorem upward_found {σ : Type} {δ : σ → UInt8 → Option σ} {acc : σ → Prop} {F : Nat → σ → Option Bs} (h : Finds δ acc F) {s : σ} {m k : Nat} {t' : Bs}
    (hk : k ≤ t'.length) (hm : t'.length < k + m) (ha : Acc δ acc s t') : ∃ t, upward (fun n => F n s) m k = some t := by
  cases hu : upward (fun n => F n s) m k with
  | some t => exact ⟨t, rfl⟩
  | none => exact absurd ha (find_none h t'.length s (upward_none _ m k hu _ hk hm) t' rfl)

/-! ### numbers -/
theorem isC0 (v : Nat) : isC 0 v = true ↔ v = 9 ∨ v = 10 ∨ v = 13 ∨ (32 ≤ v ∧ v ≤ 55295) ∨ (57344 ≤ v ∧ v ≤ 65533) ∨ (65536 ≤ v ∧ v ≤ 1114111) := by
  simp only [isC, rng, isIn]
  repeat' split
  all_goals simp
  all_goals omega

def δnum (hex : Bool) (v : Nat) (x : UInt8) : Option Nat := if 0x10FFFF < v then none else (digitOf hex x).map fun d => v * base hex + d
def accnum (v : Nat) : Prop := v ≤ 0x10FFFF ∧ isC 0 v = true

theorem finds_num (hex : Bool) : Finds (δnum hex) accnum (moreD hex) where
  zero v := ⟨fun h => by simp only [moreD]; exact if_pos h, fun h => by simp only [moreD]; exact if_neg h⟩
  succ n v := by
    simp only [moreD, δnum]
    split
    · rename_i h
      have : ∀ n k, firstOf (fun x : UInt8 => (none : Option Nat).bind (moreD hex n)) n k = none := by
        intro n k
        have : ∀ m k, firstOf (fun x : UInt8 => (none : Option Nat).bind (moreD hex n)) m k = none := by
          intro m
          induction m with
          | zero => intro k; rfl
          | succ m ih => intro k; simp only [firstOf, Option.bind_none]; exact ih (k + 1)
        exact this n k
      have h2 : ∀ m k, firstOf (fun x : UInt8 => (none : Option Nat).bind (moreD hex n)) m k = none := by
        intro m
        induction m with
        | zero => intro k; rfl
        | succ m ih => intro k; simp only [firstOf, Option.bind_none]; exact ih (k + 1)
      rw [h2]; rfl
    · congr 2
      funext x
      cases digitOf hex x <;> rfl

/-- the digits that are still wanted -/
def digitsW (hex : Bool) (v : Nat) : Bs := (upward (fun k => moreD hex k v) 5 0).getD []

theorem digit48 (hex : Bool) : digitOf hex 48 = some 0 := by cases hex <;> decide
theorem digit57 (hex : Bool) : digitOf hex 57 = some 9 := by cases hex <;> decide

theorem num_exists (hex : Bool) (v : Nat) (hv : v ≤ 0x10FFFF) : ∃ t : Bs, t.length < 5 ∧ Acc (δnum hex) accnum v t := by
  by_cases ha : isC 0 v = true
  · exact ⟨[], by simp, hv, ha⟩
  · by_cases h0 : v = 0
    · subst h0
      exact ⟨[57], by simp, 9, by simp [δnum, digit57], by omega, by rw [isC0]; omega⟩
    · rw [isC0] at ha
      by_cases h1 : v < 32
      · refine ⟨[48, 48], by simp, v * base hex, by simp [δnum, digit48]; omega, v * base hex * base hex, ?_, ?_⟩
        · have : v * base hex ≤ 1114111 := by cases hex <;> simp [base] <;> omega
          simp [δnum, digit48]; omega
        · cases hex <;> simp only [base] <;> refine ⟨by simp; omega, ?_⟩ <;> rw [isC0] <;> simp <;> omega
      · refine ⟨[48], by simp, v * base hex, by simp [δnum, digit48]; omega, ?_⟩
        cases hex <;> simp only [base] <;> refine ⟨by simp; omega, ?_⟩ <;> rw [isC0] <;> simp <;> omega

theorem digitsW_spec (hex : Bool) (v : Nat) (hv : v ≤ 0x10FFFF) : Acc (δnum hex) accnum v (digitsW hex v) ∧ ∀ t', Acc (δnum hex) accnum v t' → SL (digitsW hex v) t' := by
  obtain ⟨t', h1, h2⟩ := num_exists hex v hv
  obtain ⟨t, ht⟩ := upward_found (finds_num hex) (m := 5) (k := 0) (by omega) (by omega) h2
  obtain ⟨a, _, b⟩ := upward_least (finds_num hex) ht
  unfold digitsW
  rw [ht]
  exact ⟨a, fun t' ha => b t' (by omega) ha⟩

theorem numberRest_eq (hex : Bool) (v n : Nat) (hn : n = 0 → v = 0) : numberRest hex v n = digitsW hex v ++ [59] := by
  unfold numberRest digitsW
  by_cases ha : isC 0 v = true
  · have hv : v ≤ 0x10FFFF := by rw [isC0] at ha; omega
    have hn0 : n ≠ 0 := by rintro rfl; rw [hn rfl, isC0] at ha; omega
    rw [if_pos ⟨hn0, ha⟩]
    simp [upward, moreD, hv, ha]
  · rw [if_neg (by rintro ⟨_, h⟩; exact ha h)]
    have : upward (fun k => moreD hex k v) 5 0 = upward (fun k => moreD hex k v) 4 1 := by
      rw [upward]
      simp [moreD, ha]
    rw [this]

theorem SL.cons_inv {x : UInt8} {a b : Bs} (h : SL (x :: a) (x :: b)) : SL a b := by
  rcases h with h | ⟨h, h'⟩
  · exact .inl (by simpa using h)
  · refine .inr ⟨by simpa using h, ?_⟩
    rcases h' with h' | ⟨_, h'⟩
    · omega
    · exact h'

/-- a digit's step -/
theorem digitsW_step (hex : Bool) (v : Nat) (hv : v ≤ 0x10FFFF) {x : UInt8} {d : Nat} (hd : digitOf hex x = some d) (hv' : v * base hex + d ≤ 0x10FFFF) :
    SL (digitsW hex v) (x :: digitsW hex (v * base hex + d)) :=
  (digitsW_spec hex v hv).2 _ ⟨_, by simp [δnum, hd]; omega, (digitsW_spec hex _ hv').1⟩
theorem digitsW_cons (hex : Bool) (v : Nat) (hv : v ≤ 0x10FFFF) {y : UInt8} {t : Bs} (h : digitsW hex v = y :: t) :
    ∃ d, digitOf hex y = some d ∧ v * base hex + d ≤ 0x10FFFF ∧ digitsW hex (v * base hex + d) = t := by
  obtain ⟨a, l⟩ := digitsW_spec hex v hv
  rw [h] at a l
  obtain ⟨v', hd, ha⟩ := a
  simp only [δnum] at hd
  rw [if_neg (by omega)] at hd
  cases hx : digitOf hex y with
  | none => rw [hx] at hd; cases hd
  | some d =>
    rw [hx] at hd
    simp only [Option.map_some, Option.some.injEq] at hd
    subst hd
    have hv' : v * base hex + d ≤ 0x10FFFF := by
      cases t with
      | nil => exact ha.1
      | cons z t =>
        obtain ⟨_, h1, _⟩ := ha
        simp only [δnum] at h1
        split at h1
        · cases h1
        · omega
    refine ⟨d, rfl, hv', ?_⟩
    obtain ⟨a', l'⟩ := digitsW_spec hex _ hv'
    exact SL.antisymm (l' t ha) (SL.cons_inv (x := y) (l (y :: digitsW hex (v * base hex + d)) ⟨_, by simp [δnum, hx]; omega, a'⟩))
theorem digitsW_nil (hex : Bool) (v : Nat) (hv : v ≤ 0x10FFFF) : digitsW hex v = [] ↔ isC 0 v = true := by
  constructor
  · intro h
    have := (digitsW_spec hex v hv).1
    rw [h] at this
    exact this.2
  · intro h
    have := (digitsW_spec hex v hv).2 [] ⟨hv, h⟩
    rcases this with h | ⟨h, _⟩
    · simp at h
    · exact List.length_eq_zero_iff.1 (by simpa using h)

/-! ### names -/
/-- where a name's bytes lead: the bytes of the character at hand, the class -/
def nscan : Bs → Nat → Bs → Option (Bs × Nat)
  | p, c, [] => some (p, c)
  | p, c, x :: t => if begins c (p ++ [x]) then (if whole (p ++ [x]) then nscan [] 3 t else nscan (p ++ [x]) c t) else none

theorem nscan_append : ∀ (a b p : Bs) (c : Nat), nscan p c (a ++ b) = (nscan p c a).bind fun q => nscan q.1 q.2 b := by
  intro a
  induction a with
  | nil => intro b p c; rfl
  | cons x a ih =>
    intro b p c
    simp only [List.cons_append, nscan]
    split
    · split
      · exact ih _ _ _
      · exact ih _ _ _
    · rfl

theorem nscan_ok : ∀ (a p : Bs) (c : Nat), (p = [] ∨ begins c p = true ∧ whole p = false) → ∀ p' c', nscan p c a = some (p', c') → (p' = [] ∨ begins c' p' = true ∧ whole p' = false) := by
  intro a
  induction a with
  | nil => intro p c h p' c' e; simp only [nscan, Option.some.injEq, Prod.mk.injEq] at e; obtain ⟨rfl, rfl⟩ := e; exact h
  | cons x a ih =>
    intro p c h p' c' e
    simp only [nscan] at e
    split at e
    · rename_i hb
      split at e
      · exact ih _ _ (.inl rfl) _ _ e
      · rename_i hw; exact ih _ _ (.inr ⟨hb, by simpa using hw⟩) _ _ e
    · cases e

theorem nameLike_iff : ∀ (a p : Bs) (c : Nat), (p = [] ∨ begins c p = true ∧ whole p = false) → (nameLike p c a = true ↔ (nscan p c a).isSome = true) := by
  intro a
  induction a with
  | nil => intro p c h; simp only [nameLike, nscan]; rcases h with h | ⟨h, _⟩ <;> simp [h]
  | cons x a ih =>
    intro p c h
    simp only [nameLike, nscan]
    split
    · rename_i hb
      split
      · exact ih _ _ (.inl rfl)
      · rename_i hw; exact ih _ _ (.inr ⟨hb, by simpa using hw⟩)
    · simp

theorem isName_iff : ∀ (a p : Bs) (c : Nat), isName p c a = true ↔ nscan p c a = some ([], 3) := by
  intro a
  induction a with
  | nil => intro p c; simp [isName, nscan]
  | cons x a ih =>
    intro p c
    simp only [isName, nscan]
    split
    · split
      · exact ih _ _
      · exact ih _ _
    · simp

def δnm (nm : Bs) (x : UInt8) : Option Bs := if nameLike [] 2 (nm ++ [x]) = true then some (nm ++ [x]) else none
def accnm (had : List Bs) (nm : Bs) : Prop := isName [] 2 nm = true ∧ nm ∉ had

theorem finds_nm (had : List Bs) : Finds δnm (accnm had) (searchN had) where
  zero v := ⟨fun h => by simp only [searchN]; exact if_pos h, fun h => by simp only [searchN]; exact if_neg h⟩
  succ n v := by
    simp only [searchN, δnm]
    congr 2
    funext x
    split <;> rfl

theorem acc_nm (had : List Bs) : ∀ (t nm : Bs), Acc δnm (accnm had) nm t ↔ nscan [] 2 (nm ++ t) = some ([], 3) ∧ nm ++ t ∉ had := by
  intro t
  induction t with
  | nil => intro nm; simp only [Acc, accnm, isName_iff, List.append_nil]
  | cons x t ih =>
    intro nm
    simp only [Acc]
    constructor
    · rintro ⟨s', h1, h2⟩
      simp only [δnm] at h1
      split at h1
      · cases h1
        rw [ih] at h2
        simpa using h2
      · cases h1
    · rintro ⟨h1, h2⟩
      refine ⟨nm ++ [x], ?_, (ih _).2 (by simpa using ⟨h1, h2⟩)⟩
      have : nameLike [] 2 (nm ++ [x]) = true := by
        rw [nameLike_iff _ _ _ (.inl rfl)]
        have e : nm ++ x :: t = (nm ++ [x]) ++ t := by simp
        rw [e, nscan_append] at h1
        cases h : nscan [] 2 (nm ++ [x]) with
        | none => rw [h] at h1; cases h1
        | some q => rfl
      simp [δnm, this]

/-- behind a whole name one may go on with dashes -/
theorem nscan_dash : ∀ (k : Nat), nscan [] 3 (List.replicate k 45) = some ([], 3) := by
  intro k
  induction k with
  | zero => rfl
  | succ k ih =>
    have hb : begins 3 [45] = true := by decide
    have hw : whole [45] = true := by decide
    rw [List.replicate_succ]
    simp only [nscan, List.nil_append, hb, hw, if_true]
    exact ih

theorem nscan_compl (c : Nat) : ∀ (n : Nat) (p : Bs), begins c p = true → whole p = false → toCome p ≤ n → nscan p c (compl c p) = some ([], 3) := by
  intro n
  induction n with
  | zero => intro p hb hw hn; rw [(toCome_zero hb).1 (by omega)] at hw; cases hw
  | succ n ih =>
    intro p hb hw hn
    obtain ⟨y, hy, e, _⟩ := compl_cons hb hw
    rw [e]
    simp only [nscan, hy, if_true]
    cases hwy : whole (p ++ [y]) with
    | true => simp [compl_whole hwy, nscan]
    | false => simp only [Bool.false_eq_true, if_false]; exact ih _ hy hwy (by rw [toCome_snoc (begins_ne hb)]; omega)

/-- of so many different lists one more than a list holds: one does not stand in it -/
theorem pigeon (f : Nat → Bs) (hinj : ∀ i j, f i = f j → i = j) : ∀ (had : List Bs), ∃ i, i ≤ had.length ∧ f i ∉ had := by
  intro had
  have key : ∀ (n : Nat) (l : List Bs), (∀ i, i < n → f i ∈ l) → n ≤ l.length := by
    intro n
    induction n with
    | zero => intro l _; omega
    | succ n ih =>
      intro l h
      have h1 := ih (l.erase (f n)) (fun i hi => (List.mem_erase_of_ne (fun e => by have := hinj _ _ e; omega)).2 (h i (by omega)))
      have h2 := h n (by omega)
      rw [List.length_erase_of_mem h2] at h1
      have := List.length_pos_of_mem h2
      omega
  by_cases h : ∃ i, i ≤ had.length ∧ f i ∉ had
  · exact h
  · have : ∀ i, i < had.length + 1 → f i ∈ had := by
      intro i hi
      by_cases hm : f i ∈ had
      · exact hm
      · exact absurd ⟨i, by omega, hm⟩ h
    have := key _ had this
    omega

theorem nm_exists (had : List Bs) (nm p : Bs) (c : Nat) (hs : nscan [] 2 nm = some (p, c)) (hp : p ≠ [] ∨ c = 3) :
    ∃ t, t.length < had.length + 6 ∧ Acc δnm (accnm had) nm t := by
  have hok := nscan_ok nm [] 2 (.inl rfl) p c hs
  obtain ⟨u, hu, hul⟩ : ∃ u, nscan p c u = some ([], 3) ∧ u.length ≤ 3 := by
    rcases hok with rfl | ⟨hb, hw⟩
    · rcases hp with hp | rfl
      · exact absurd rfl hp
      · exact ⟨[], rfl, by simp⟩
    · exact ⟨compl c p, nscan_compl c _ p hb hw (Nat.le_refl _), by rw [compl_len hb]; exact toCome_le hb⟩
  obtain ⟨i, hi, hn⟩ := pigeon (fun i => nm ++ (u ++ List.replicate i 45)) (fun i j e => by
    have := congrArg List.length e
    simp at this
    exact this) had
  refine ⟨u ++ List.replicate i 45, by simp; omega, (acc_nm had _ _).2 ⟨?_, hn⟩⟩
  rw [nscan_append, hs]
  simp only [Option.bind_some]
  rw [nscan_append, hu]
  exact nscan_dash i

theorem unlike_spec (had : List Bs) (nm p : Bs) (c : Nat) (hs : nscan [] 2 nm = some (p, c)) (hp : p ≠ [] ∨ c = 3) :
    (nscan [] 2 (nm ++ unlike nm had) = some ([], 3) ∧ nm ++ unlike nm had ∉ had) ∧
    ∀ t', nscan [] 2 (nm ++ t') = some ([], 3) → nm ++ t' ∉ had → SL (unlike nm had) t' := by
  obtain ⟨t', h1, h2⟩ := nm_exists had nm p c hs hp
  obtain ⟨t, ht⟩ := upward_found (finds_nm had) (m := had.length + 6) (k := 0) (by omega) (by omega) h2
  obtain ⟨a, _, b⟩ := upward_least (finds_nm had) ht
  unfold unlike
  rw [ht]
  exact ⟨(acc_nm had _ _).1 a, fun t' h1 h2 => b t' (by omega) ((acc_nm had _ _).2 ⟨h1, h2⟩)⟩

end Gm
