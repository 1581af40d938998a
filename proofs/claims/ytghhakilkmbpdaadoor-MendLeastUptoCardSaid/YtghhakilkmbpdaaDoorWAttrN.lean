/- Names that are read, on the machine; blanks. -/
import Derived.Test.YtghhakilkmbpdaaDoorWUnlike
import Derived.Test.YtghhakilkmbpdaaDoorPAttr
namespace Go.Proofs.YtghhakilkmbpdaaDoor
open Go Go.RowKit

theorem drop_len {b : Gm.Bs} {n : Nat} {q v : Gm.Bs} (h : b.drop n = q ++ v) (hq : q ≠ []) : n + q.length ≤ b.length ∧ b.drop (n + q.length) = v ∧ (b.drop n).take q.length = q := by
  have hl := congrArg List.length h
  have hq' : 0 < q.length := List.length_pos_iff.2 hq
  simp at hl
  refine ⟨by omega, ?_, by rw [h]; simp⟩
  rw [← List.drop_drop, h]
  simp

theorem NameRun.le {b : Gm.Bs} {n m : Nat} (h : NameRun b n m) : n ≤ m := by
  induction h with
  | nil => exact Nat.le_refl _
  | step _ _ ih => omega

/-- the machine over a name's rest -/
theorem NameRun.at_ {b : Gm.Bs} {n m : Nat} (h : NameRun b n m) : ∀ {s : Gm.K}, s.pend = [] → 
    (s.st = .attrName → AtK b n s → AtK b m { s with attr := s.attr ++ (b.drop n).take (m - n) }) ∧
    (s.st = .tagName → AtK b n s → AtK b m { s with name := s.name ++ (b.drop n).take (m - n) }) ∧
    Gm.nscan [] 3 ((b.drop n).take (m - n)) = some ([], 3) := by
  induction h with
  | nil n =>
    intro s _
    simp [Gm.nscan]
  | @step n m q hq hrun ih =>
    intro s hp
    obtain ⟨v, h1, h2⟩ := Gm.scan_char0 hq
    have hqn := Gm.char_ne hq
    obtain ⟨d1, d2, d3⟩ := drop_len h1 hqn
    have hle := hrun.le
    have hn : n < b.length := by have := List.length_pos_iff.2 hqn; omega
    have htk : (b.drop n).take (m - n) = q ++ (b.drop (n + q.length)).take (m - (n + q.length)) := by
      rw [h1, d2, List.take_append]
      rw [List.take_of_length_le (by omega)]
      congr 2
      omega
    have hb3 : Gm.begins 3 [b.getD n 0] = true := by
      rw [drop_cons hn] at hq
      exact Gm.char_first hq
    refine ⟨fun hst hat => ?_, fun hst hat => ?_, ?_⟩
    · have h := (hat.char hn (Gm.takes_attr (.inl hst) hp hb3)).1 q hq
      have e : s.took q = { s with attr := s.attr ++ q } := by
        obtain ⟨st, pend, opn, root, name, had, attr⟩ := s
        simp only at hst hp
        subst hst hp
        rfl
      rw [e] at h
      have := (ih (s := { s with attr := s.attr ++ q }) hp).1 hst h
      rw [htk]
      simpa using this
    · have h := (hat.char hn (Gm.takes_attr (.inr hst) hp hb3)).1 q hq
      have e : s.took q = { s with name := s.name ++ q } := by
        obtain ⟨st, pend, opn, root, name, had, attr⟩ := s
        simp only at hst hp
        subst hst hp
        rfl
      rw [e] at h
      have := (ih (s := { s with name := s.name ++ q }) hp).2.1 hst h
      rw [htk]
      simpa using this
    · rw [htk, Gm.nscan_append, h2]
      exact (ih (s := Gm.K.init) rfl).2.2

theorem blank_iff (x : UInt8) : Gm.blank x = decide (x ∈ [(32 : UInt8), 9, 10, 13]) := by
  unfold Gm.blank
  simp
theorem isIt_at {set b : Gm.Bs} {n : Nat} {x : UInt8} (h : b[n]? = some x) : isIt set b n = decide (x ∈ set) := by unfold isIt; rw [h]
theorem isIt_get {x : UInt8} {b : Gm.Bs} {n : Nat} (h : isIt [x] b n = true) : b[n]? = some x := by
  unfold isIt at h
  split at h
  · rename_i y hy; rw [hy]; simpa using h
  · cases h
theorem isIt_not {set b : Gm.Bs} {n : Nat} {x : UInt8} (h : isIt set b n = false) (hx : b[n]? = some x) : ¬ x ∈ set := by
  rw [isIt_at hx] at h
  simpa using h

/-- a state that stays at blanks -/
theorem AtK.blanks {b : Gm.Bs} {n m : Nat} {s : Gm.K} (h : AtK b n s) (hs : ∀ x, Gm.blank x = true → s.step x = some s) (hn : n ≤ m) (hb : ∀ i, n ≤ i → i < m → isIt [32, 9, 10, 13] b i = true) : AtK b m s := by
  obtain ⟨k, rfl⟩ : ∃ k, m = n + k := ⟨m - n, by omega⟩
  clear hn
  induction k with
  | zero => exact h
  | succ k ih =>
    have h1 := ih (fun i a c => hb i a (by omega))
    have h2 := hb (n + k) (by omega) (by omega)
    have hl := isIt_lt h2
    have hg := getD_some hl
    refine h1.step hg (hs _ ?_)
    rw [blank_iff, ← isIt_at hg]
    exact h2
/-- .. whose first blank leads to one that stays -/
theorem AtK.blanks1 {b : Gm.Bs} {n m : Nat} {s s' : Gm.K} (h : AtK b n s) (h1 : ∀ x, Gm.blank x = true → s.step x = some s') (hs : ∀ x, Gm.blank x = true → s'.step x = some s') (hn : n < m) (hb : ∀ i, n ≤ i → i < m → isIt [32, 9, 10, 13] b i = true) : AtK b m s' := by
  have h2 := hb n (by omega) hn
  have hl := isIt_lt h2
  have hg := getD_some hl
  have h3 : AtK b (n + 1) s' := h.step hg (h1 _ (by rw [blank_iff, ← isIt_at hg]; exact h2))
  exact h3.blanks hs (by omega) (fun i a c => hb i (by omega) c)

/-- behind a name that is new, and blanks -/
theorem attr_blank {b : Gm.Bs} {n n2 : Nat} {s : Gm.K} (hst : s.st = .attrName) (hp : s.pend = []) (hat : AtK b n s) (hn : n < b.length) (hb : Gm.begins 3 [b.getD n 0] = false) (hnew : ¬ s.attr ∈ s.had)
    (hle : n ≤ n2) (hbl : ∀ i, n ≤ i → i < n2 → isIt [32, 9, 10, 13] b i = true) (hno : isIt [32, 9, 10, 13] b n2 = false) :
    ∃ s2, AtK b n2 s2 ∧ (n2 = b.length → s2.rest = [61, 34, 34, 47, 62] ++ Gm.closing s.opn ++ Gm.rl s.root) ∧ (∀ y, b[n2]? = some y → y ≠ 61 → s2.step y = none) ∧ (b[n2]? = some 61 → s2.step 61 = some { s with st := .equals, had := s.attr :: s.had }) := by
  by_cases e : n2 = n
  · subst e
    have hg := getD_some hn
    have hstep := Gm.attr_end hst hp hb
    rw [if_neg hnew] at hstep
    have hnb : Gm.blank (b.getD n2 0) = false := by rw [blank_iff, ← isIt_at hg]; exact hno
    refine ⟨s, hat, fun h => by omega, fun y hy h61 => ?_, fun h => ?_⟩
    · rw [hg] at hy
      simp only [Option.some.injEq] at hy
      rw [hy] at hstep hnb
      rw [hstep, if_neg h61, hnb]
      rfl
    · rw [hg] at h
      simp only [Option.some.injEq] at h
      rw [h] at hstep
      rw [hstep, if_pos rfl]
  · have h1 : ∀ x, Gm.blank x = true → s.step x = some { s with st := .attrEnd, had := s.attr :: s.had } := by
      intro x hx
      have hb3 : Gm.begins 3 [x] = false := by
        unfold Gm.blank at hx
        simp only [decide_eq_true_eq] at hx
        rcases hx with rfl | rfl | rfl | rfl <;> decide +kernel
      rw [Gm.attr_end hst hp hb3, if_neg hnew, if_neg (Gm.blank_lt hx).2.1, if_pos hx]
    have h2 := hat.blanks1 h1 (fun x hx => by rw [Gm.attrEnd_step (s := { s with st := .attrEnd, had := s.attr :: s.had }) rfl hp, if_pos hx]) (by omega) hbl
    refine ⟨_, h2, fun _ => Gm.attrEnd_rest (s := { s with st := .attrEnd, had := s.attr :: s.had }) rfl hp, fun y hy h61 => ?_, fun h => ?_⟩
    · have hnb : Gm.blank y = false := by rw [blank_iff, ← isIt_at hy]; exact hno
      rw [Gm.attrEnd_step (s := { s with st := .attrEnd, had := s.attr :: s.had }) rfl hp, hnb, if_neg h61]
      rfl
    · rw [Gm.attrEnd_step (s := { s with st := .attrEnd, had := s.attr :: s.had }) rfl hp]
      rfl
end Go.Proofs.YtghhakilkmbpdaaDoor
