/- Plain Lean, no program: how long what ends a document's beginning is at most. -/
import Derived.Test.YtghhakilkmbpdaaDoorPDoc
namespace Gm

/-- what the open tag will owe -/
def K.owes (s : K) : Nat := match s.st with
  | .less => 4 + 4 * s.pend.length
  | .tagName => 3 * s.name.length + 5 + 4 * s.pend.length
  | .inTag | .valued | .attrName | .attrEnd | .equals | .value _ | .slash => 3 * s.name.length + 5
  | .named (some _) _ | .hash (some _) | .number (some _) _ _ _ => 3 * s.name.length + 5
  | .endName l => 3 * l.length
  | _ => 0
def K.wt (s : K) : Nat := 3 * (closing s.opn).length + s.owes

theorem closing_cons_len (n : Bs) (o : List Bs) : (closing (n :: o)).length = n.length + 3 + (closing o).length := by
  simp [closing]; omega

theorem took_wt (s : K) (p : Bs) (hp : s.pend.length + 1 = p.length) : (s.took p).wt ≤ s.wt + 4 ∧ (s.took p).had.length ≤ s.had.length := by
  obtain ⟨st, pend, opn, root, name, had, attr⟩ := s
  simp only at hp
  cases st with
  | named q t => cases q <;> simp [K.took, K.wt, K.owes]
  | hash q => cases q <;> simp [K.took, K.wt, K.owes]
  | number q h v n => cases q <;> simp [K.took, K.wt, K.owes]
  | _ => simp [K.took, K.wt, K.owes] <;> omega

theorem behind_wt (s s' : K) (x : UInt8) (h : s.behind x = some s') (hs : s.st = .tagName ∨ s.st = .inTag ∨ s.st = .valued) : s'.wt ≤ s.wt + 4 ∧ s'.had.length ≤ s.had.length := by
  obtain ⟨st, pend, opn, root, name, had, attr⟩ := s
  simp only at hs
  unfold K.behind at h
  rcases hs with rfl | rfl | rfl
  all_goals
    split at h
    · cases h; simp [K.wt, K.owes] <;> omega
    · split at h
      · cases h; simp [K.wt, K.owes] <;> omega
      · split at h
        · cases h; simp [K.wt, K.owes, closing_cons_len]; omega
        · cases h

/-- what the tag owes in whose value it stands -/
def K.tag (s : K) : Back → Nat
  | some _ => 3 * s.name.length + 5
  | none => 0

theorem back_wt (s : K) (q : Back) (hw : 3 * (closing s.opn).length + s.tag q ≤ s.wt) : (s.back q).wt ≤ s.wt + 4 ∧ (s.back q).had.length ≤ s.had.length := by
  cases q <;> simp [K.back, K.wt, K.owes, K.tag] at * <;> omega

theorem digit_wt (s s' : K) (q : Back) (hex : Bool) (v n : Nat) (x : UInt8) (h : s.digit q hex v n x = some s') (hw : 3 * (closing s.opn).length + s.tag q ≤ s.wt) :
    s'.wt ≤ s.wt + 4 ∧ s'.had.length ≤ s.had.length := by
  unfold K.digit at h
  split at h
  · split at h
    · cases h
      cases q <;> simp [K.wt, K.owes, K.tag] at * <;> omega
    · cases h
  · split at h
    · cases h; exact back_wt s q hw
    · cases h

theorem ascii_wt (s s' : K) (x : UInt8) (h : s.ascii x = some s') (hp : s.pend = []) : s'.wt ≤ s.wt + 4 ∧ s'.had.length ≤ s.had.length + 1 := by
  have T := took_wt s [x] (by rw [hp]; rfl)
  have B : ∀ s', s.behind x = some s' → (s.st = .tagName ∨ s.st = .inTag ∨ s.st = .valued) → s'.wt ≤ s.wt + 4 ∧ s'.had.length ≤ s.had.length := fun s' h hs => behind_wt s s' x h hs
  have D : ∀ s' q hex v n, s.digit q hex v n x = some s' → (3 * (closing s.opn).length + s.tag q ≤ s.wt) → s'.wt ≤ s.wt + 4 ∧ s'.had.length ≤ s.had.length := fun s' q hex v n h => digit_wt s s' q hex v n x h
  have R := back_wt s
  obtain ⟨st, pend, opn, root, name, had, attr⟩ := s
  simp only at hp
  subst hp
  cases st with
  | named q t =>
    have R1 := R q (by cases q <;> simp [K.wt, K.owes, K.tag])
    clear T B D R
    simp only [K.ascii] at h
    split at h
    · cases h; cases q <;> simp [K.wt, K.owes]
    · split at h
      · split at h
        · cases h; exact ⟨R1.1, by have := R1.2; omega⟩
        · cases h
      · split at h
        · cases h; cases q <;> simp [K.wt, K.owes]
        · cases h
  | hash q =>
    simp only [K.ascii] at h
    split at h
    · cases h; cases q <;> simp [K.wt, K.owes]
    · have := D s' _ _ _ _ h (by cases q <;> simp [K.wt, K.owes, K.tag])
      exact ⟨this.1, by have := this.2; omega⟩
  | number q hex v n =>
    simp only [K.ascii] at h
    have := D s' _ _ _ _ h (by cases q <;> simp [K.wt, K.owes, K.tag])
    exact ⟨this.1, by have := this.2; omega⟩
  | valued =>
    simp only [K.ascii] at h
    have := B s' h (.inr (.inr rfl))
    exact ⟨this.1, by have := this.2; omega⟩
  | tagName =>
    simp only [K.ascii] at h
    split at h
    · cases h; exact ⟨T.1, by have := T.2; omega⟩
    · have := B s' h (.inl rfl)
      exact ⟨this.1, by have := this.2; omega⟩
  | inTag =>
    simp only [K.ascii] at h
    split at h
    · cases h; exact ⟨T.1, by have := T.2; omega⟩
    · have := B s' h (.inr (.inl rfl))
      exact ⟨this.1, by have := this.2; omega⟩
  | less =>
    simp only [K.ascii] at h
    split at h
    · cases h; simp [K.wt, K.owes]; omega
    · split at h
      · split at h
        · cases h; simp [K.wt, K.owes, closing_cons_len]; omega
        · split at h
          · cases h; exact ⟨T.1, by have := T.2; omega⟩
          · cases h
      · split at h
        · cases h
        · split at h
          · cases h; exact ⟨T.1, by have := T.2; omega⟩
          · cases h
  | attrName =>
    simp only [K.ascii] at h
    repeat' split at h
    all_goals first | (cases h; done) | (cases h; exact ⟨T.1, by have := T.2; omega⟩) | (cases h; simp [K.wt, K.owes])
  | value q =>
    simp only [K.ascii] at h
    repeat' split at h
    all_goals first | (cases h; done) | (cases h; simp [K.wt, K.owes])
  | endName l =>
    simp only [K.ascii] at h
    repeat' split at h
    all_goals first | (cases h; done) | (cases h; simp [K.wt, K.owes] <;> omega)
  | _ =>
    simp only [K.ascii] at h
    repeat' split at h
    all_goals first | (cases h; done) | (cases h; simp [K.wt, K.owes] <;> omega)

theorem step_wt (s s' : K) (x : UInt8) (h : s.step x = some s') : s'.wt ≤ s.wt + 4 ∧ s'.had.length ≤ s.had.length + 1 := by
  unfold K.step at h
  split at h
  · rename_i y t hst
    split at h
    · cases h
      simp [K.wt, K.owes, hst]
      omega
    · cases h
  · split at h
    · rename_i hp
      exact ascii_wt s s' x h hp.1
    · split at h
      · cases h
      · split at h
        · split at h
          · cases h
            have := took_wt s (s.pend ++ [x]) (by simp)
            exact ⟨this.1, by have := this.2; omega⟩
          · cases h
            obtain ⟨st, pend, opn, root, name, had, attr⟩ := s
            cases st with
            | named q t => cases q <;> simp [K.wt, K.owes]
            | hash q => cases q <;> simp [K.wt, K.owes]
            | number q h v n => cases q <;> simp [K.wt, K.owes]
            | _ => simp [K.wt, K.owes] <;> omega
        · cases h

theorem run_wt : ∀ (b : Bs) (s s' : K), s.run b = some s' → s'.wt ≤ s.wt + 4 * b.length ∧ s'.had.length ≤ s.had.length + b.length := by
  intro b
  induction b with
  | nil => intro s s' h; simp only [K.run, Option.some.injEq] at h; subst h; simp
  | cons x b ih =>
    intro s s' h
    simp only [K.run] at h
    split at h
    · cases h
    · rename_i s1 h1
      have a := step_wt s s1 x h1
      have c := ih s1 s' h
      simp only [List.length_cons]
      omega

theorem complN_le (c n : Nat) (p : Bs) : (complN c n p).length ≤ n := by
  induction n generalizing p with
  | zero => simp [complN]
  | succ n ih =>
    simp only [complN]
    split
    · simp
    · split
      · simp
      · rename_i x _ _
        have := ih (p ++ [x])
        simp only [List.length_cons]
        omega
theorem firstOf_val {α : Type} (f : UInt8 → Option α) : ∀ (n k : Nat) (p : UInt8 × α), firstOf f n k = some p → f p.1 = some p.2 := by
  intro n
  induction n with
  | zero => intro k p h; cases h
  | succ n ih =>
    intro k p h
    simp only [firstOf] at h
    split at h
    · rename_i a ha
      cases h
      exact ha
    · exact ih (k + 1) p h
theorem searchN_len (had : List Bs) : ∀ (n : Nat) (nm r : Bs), searchN had n nm = some r → r.length = n := by
  intro n
  induction n with
  | zero =>
    intro nm r h
    simp only [searchN] at h
    split at h
    · cases h; rfl
    · cases h
  | succ n ih =>
    intro nm r h
    simp only [searchN, Option.map_eq_some_iff] at h
    obtain ⟨p, hp, rfl⟩ := h
    have := firstOf_val _ _ _ _ hp
    split at this
    · have := ih _ _ this
      simp [this]
    · cases this
theorem unlike_len (nm : Bs) (had : List Bs) : (unlike nm had).length ≤ had.length + 5 := by
  unfold unlike
  cases h : upward (fun k => searchN had k nm) (had.length + 6) 0 with
  | none => simp
  | some a =>
    obtain ⟨j, h1, h2, h3, _⟩ := upward_some _ _ _ _ h
    have := searchN_len had j nm a h3
    simp
    omega
theorem moreD_len (hex : Bool) : ∀ (n v : Nat) (r : Bs), moreD hex n v = some r → r.length = n := by
  intro n
  induction n with
  | zero =>
    intro v r h
    simp only [moreD] at h
    split at h
    · cases h; rfl
    · cases h
  | succ n ih =>
    intro v r h
    simp only [moreD] at h
    split at h
    · cases h
    · simp only [Option.map_eq_some_iff] at h
      obtain ⟨p, hp, rfl⟩ := h
      have := firstOf_val _ _ _ _ hp
      split at this
      · cases this
      · have := ih _ _ this
        simp [this]
theorem numberRest_len (hex : Bool) (v n : Nat) : (numberRest hex v n).length ≤ 5 := by
  unfold numberRest
  split
  · simp
  · cases h : upward (fun k => moreD hex k v) 4 1 with
    | none => simp
    | some a =>
      obtain ⟨j, h1, h2, h3, _⟩ := upward_some _ _ _ _ h
      have := moreD_len hex j v a h3
      simp
      omega
theorem leastLeft_len (t : Bs) : ∀ (l : List Bs) (best : Bs), (∀ m ∈ l, m.length ≤ 5) → best.length ≤ 5 → (leastLeft t l best).length ≤ 5 := by
  intro l
  induction l with
  | nil => intro best _ h; exact h
  | cons m r ih =>
    intro best h1 h2
    simp only [leastLeft]
    refine ih _ (fun x hx => h1 x (by simp [hx])) ?_
    split
    · have := h1 m (by simp)
      simp
      omega
    · exact h2
theorem tagRest_len (q : Back) : (tagRest q).length ≤ 3 := by cases q <;> simp [tagRest]

/-- .. of a character that has begun, if there is one -/
theorem begun_len (pend : Bs) (cls : Option Nat) (tail other : Bs) (k : Nat) (h1 : tail.length + 4 ≤ k) (h2 : other.length ≤ k) :
    (match pend, cls with | _ :: _, some c => compl c pend ++ tail | _, _ => other).length ≤ k := by
  cases pend with
  | nil => exact h2
  | cons a t =>
    cases cls with
    | none => exact h2
    | some c =>
      have := complN_le c 4 (a :: t)
      simp only [compl, List.length_append]
      omega
theorem begun_len0 (pend : Bs) (cls : Option Nat) : (match pend, cls with | _ :: _, some c => compl c pend | _, _ => []).length ≤ 4 := by
  cases pend with
  | nil => simp
  | cons a t =>
    cases cls with
    | none => simp
    | some c => exact complN_le c 4 (a :: t)

theorem within_wt (s : K) : 3 * s.within.length + 3 * (closing s.left).length ≤ s.wt + 3 * s.had.length + 60 := by
  obtain ⟨st, pend, opn, root, name, had, attr⟩ := s
  cases st with
  | less =>
    cases pend with
    | cons a t =>
      have e : (K.left ⟨.less, a :: t, opn, root, name, had, attr⟩) = opn := by cases opn <;> rfl
      rw [e]
      simp only [K.within]
      cases hc : K.cls ⟨.less, a :: t, opn, root, name, had, attr⟩ with
      | some c =>
        have := complN_le c 4 (a :: t)
        simp [compl, K.wt, K.owes] at *
        omega
      | none =>
        cases opn with
        | nil => cases root <;> simp [K.wt, K.owes, closing]
        | cons nm o =>
          simp [K.cls] at hc
    | nil =>
      cases opn with
      | nil => cases root <;> simp [K.within, K.left, K.wt, K.owes, closing]
      | cons nm o => simp [K.within, K.left, K.wt, K.owes, closing_cons_len]; omega
  | between n =>
    have : (K.within ⟨.between n, pend, opn, root, name, had, attr⟩).length ≤ 4 := begun_len0 pend (K.cls ⟨.between n, pend, opn, root, name, had, attr⟩)
    simp only [K.left, K.wt, K.owes]
    omega
  | comment n =>
    have : (K.within ⟨.comment n, pend, opn, root, name, had, attr⟩).length ≤ 7 := begun_len pend (K.cls ⟨.comment n, pend, opn, root, name, had, attr⟩) [45, 45, 62] ([45, 45, 62].drop (min n 2)) 7 (by simp) (by simp; omega)
    simp only [K.left, K.wt, K.owes]
    omega
  | section_ n =>
    have : (K.within ⟨.section_ n, pend, opn, root, name, had, attr⟩).length ≤ 7 := begun_len pend (K.cls ⟨.section_ n, pend, opn, root, name, had, attr⟩) [93, 93, 62] ([93, 93, 62].drop (min n 2)) 7 (by simp) (by simp; omega)
    simp only [K.left, K.wt, K.owes]
    omega
  | tagName =>
    have : (K.within ⟨.tagName, pend, opn, root, name, had, attr⟩).length ≤ 6 := begun_len pend (K.cls ⟨.tagName, pend, opn, root, name, had, attr⟩) [47, 62] [47, 62] 6 (by simp) (by simp)
    simp only [K.left, K.wt, K.owes]
    omega
  | value q =>
    have : (K.within ⟨.value q, pend, opn, root, name, had, attr⟩).length ≤ 7 := begun_len pend (K.cls ⟨.value q, pend, opn, root, name, had, attr⟩) [q, 47, 62] [q, 47, 62] 7 (by simp) (by simp)
    simp only [K.left, K.wt, K.owes]
    omega
  | inTag =>
    cases pend with
    | nil => simp [K.within, K.left, K.wt, K.owes]; omega
    | cons a t =>
      have := unlike_len (a :: t) had
      simp [K.within, K.left, K.wt, K.owes]
      omega
  | attrName =>
    have := unlike_len (attr ++ pend) had
    simp [K.within, K.left, K.wt, K.owes]
    omega
  | named q t =>
    have h1 := leastLeft_len t namesS [] (by decide) (by simp)
    have h2 := tagRest_len q
    simp only [K.within, K.left, K.wt, List.length_append]
    split <;> simp at * <;> omega
  | hash q =>
    have h2 := tagRest_len q
    simp [K.within, K.left, K.wt]
    omega
  | number q hex v n =>
    have h1 := numberRest_len hex v n
    have h2 := tagRest_len q
    simp [K.within, K.left, K.wt]
    omega
  | literal k =>
    have : (cdata.drop k).length ≤ 7 := by simp [cdata]
    simp only [K.within, K.left, K.wt, K.owes, List.length_append, List.length_cons, List.length_nil]
    omega
  | endName l => simp [K.within, K.left, K.wt, K.owes]; omega
  | _ => simp [K.within, K.left, K.wt, K.owes] <;> omega

theorem rest_wt (s : K) : 3 * s.rest.length ≤ s.wt + 3 * s.had.length + 72 := by
  have h := within_wt s
  have hr : (if s.rootless then [(60 : UInt8), 65, 47, 62] else []).length ≤ 4 := by split <;> simp
  unfold K.rest
  simp only [List.length_append]
  omega

theorem rest_len {b : Bs} {s : K} (h : K.init.run b = some s) : 3 * s.rest.length ≤ 7 * b.length + 72 := by
  obtain ⟨h1, h2⟩ := run_wt b K.init s h
  have h3 := rest_wt s
  have e1 : K.init.wt = 0 := by decide
  have e2 : K.init.had.length = 0 := rfl
  omega
end Gm
