/- Walks: reader.startTag. -/
import Derived.Test.YtghhakilkmbpdaaDoorWEndTag
namespace Gm
theorem takes_less {s : K} (hst : s.st = .less) (hp : s.pend = []) (hr : s.opn = [] → s.root = false) {x : UInt8} (h1 : x ≠ 33) (h2 : s.opn ≠ [] → x ≠ 47) : Takes s 2 x := by
  refine ⟨by rw [hst]; simp, hp, ?_, fun hx => ?_⟩
  · simp only [K.cls, hst]
    rw [if_neg]
    rintro ⟨ho, hr'⟩
    rw [hr ho] at hr'
    cases hr'
  · cases ho : s.opn with
    | nil => simp [K.ascii, hst, h1, ho, hr ho]
    | cons nm o => simp [K.ascii, hst, h1, ho, h2 (by rw [ho]; simp)]
theorem less_took {s : K} (hst : s.st = .less) (q : Bs) : s.took q = { s with st := .tagName, pend := [], root := true, name := q, had := [] } := by simp [K.took, hst]
theorem less_cut {s : K} (hst : s.st = .less) (hr : s.opn = [] → s.root = false) {q : Bs} (hq : q ≠ []) : ({ s with pend := q } : K).rest = compl 2 q ++ [47, 62] ++ closing s.opn := by
  obtain ⟨st, pend, opn, root, name, had, attr⟩ := s
  simp only at hst hr
  subst hst
  cases q with
  | nil => exact absurd rfl hq
  | cons a t =>
    cases opn with
    | nil => simp [K.rest, K.within, K.cls, K.left, K.rootless, hr rfl]
    | cons nm o => simp [K.rest, K.within, K.cls, K.left, K.rootless]
/-- within a tag, behind its name, a blank, or a value -/
theorem tag_rest {s : K} (hst : s.st = .tagName ∨ s.st = .inTag ∨ s.st = .valued) (hp : s.pend = []) : s.rest = [47, 62] ++ closing s.opn ++ rl s.root := by
  rcases hst with h | h | h
  all_goals
    rw [rest_eq s (by rw [h]; simp)]
    simp [K.within, K.left, h, hp]
theorem tag_cut {s : K} (hst : s.st = .tagName) {q : Bs} (hq : q ≠ []) : ({ s with pend := q } : K).rest = compl 3 q ++ [47, 62] ++ closing s.opn ++ rl s.root := by
  rw [rest_eq _ (by rw [hst]; simp)]
  cases q with
  | nil => exact absurd rfl hq
  | cons a t => simp [K.within, K.left, K.cls, hst]
theorem tag_step {s : K} (hst : s.st = .tagName ∨ s.st = .inTag ∨ s.st = .valued) (hp : s.pend = []) {x : UInt8}
    (hno : s.st = .tagName → begins 3 [x] = false) (hx : blank x = true ∨ x = 47 ∨ x = 62 ∨ s.st ≠ .inTag) : s.step x = s.behind x := by
  have hne : ∀ y t, s.st ≠ .endName (y :: t) := by rcases hst with h | h | h <;> rw [h] <;> simp
  by_cases hx8 : x.toNat < 128
  · rw [step_ascii hne hp hx8]
    rcases hst with h | h | h
    · have hi : isC 3 x.toNat = false := by rw [← begins_ascii 3 x hx8]; exact hno h
      simp [K.ascii, h, hi]
    · have hi : isC 2 x.toNat = false := by
        rcases hx with hx | rfl | rfl | hx
        · unfold blank at hx
          simp only [decide_eq_true_eq] at hx
          rcases hx with rfl | rfl | rfl | rfl <;> decide
        · decide
        · decide
        · exact absurd h hx
      simp [K.ascii, h, hi]
    · simp [K.ascii, h]
  · rw [step_pend hne (by simp [hx8])]
    have hb : blank x = false := by
      cases h : blank x with
      | false => rfl
      | true => exact absurd (blank_lt h).1 hx8
    have h1 : ¬ x = 47 := by rintro rfl; simp at hx8
    have h2 : ¬ x = 62 := by rintro rfl; simp at hx8
    have hbh : s.behind x = none := by simp [K.behind, hb, h1, h2]
    rw [hbh]
    rcases hst with h | h | h
    · simp [K.cls, h, hp, hno h]
    · exfalso
      rcases hx with hx | rfl | rfl | hx
      · rw [hb] at hx; cases hx
      · exact h1 rfl
      · exact h2 rfl
      · exact hx h
    · simp [K.cls, h]
end Gm
namespace Go.Proofs.YtghhakilkmbpdaaDoor
open Go Go.RowKit

def above (p : Nat) : Nat → Prop := fun k => p ≤ k
theorem Fr.above {p : Nat} {w w' : World} (h : Fr (only p) w w') : Fr (above p) w w' := h.mono fun _ _ h => Nat.le_of_eq (Eq.symm h)
theorem Fr.above2 {p m : Nat} {w w' : World} (h : Fr (two p m) w w') (hm : p ≤ m) : Fr (Go.Proofs.YtghhakilkmbpdaaDoor.above p) w w' := h.mono fun _ _ h => by
  rcases h with h | h
  · exact Nat.le_of_eq h.symm
  · rw [h]; exact hm

def MPost (B : Nat) (w : World) (p : Nat) (r : R) (e : Ending) (w' : World) : Prop :=
  (e = .returned (.tuple #[]) ∧ ∃ n s' v, r.at_ < n ∧ AtK r.b n s' ∧ s'.st = .between 0 ∧ s'.pend = [] ∧ Rd B w' p { r with at_ := n, o := s'.opn, ov := v, root := s'.root } ∧ Fr (above p) w w') ∨ (Halts r.b e ∧ Fr (above p) w w')

/-- the root has begun -/
theorem Rd.rooted {B : Nat} {w : World} {p : Nat} {r : R} (h : Rd B w p r) : Rd B (w.setCell ⟨p, 3, none⟩ (.bool true)) p { r with root := true } := by
  have hf : Fr (fun k => k = p) w (w.setCell ⟨p, 3, none⟩ (.bool true)) := Fr.setCell _ _ _ (.inl rfl)
  have hb : (w.setCell ⟨p, 3, none⟩ (.bool true)).heap[p]? = some (.cells (R.cells { r with root := true }) 53 (0, 0)) := by
    simp only [World.setCell, Array.getElem?_modify, h.blk, if_true, Option.map_some]
    rfl
  have hpB : ∀ k, k < B → ¬ k = p := fun k hk e => by have := h.hp; omega
  exact ⟨h.env.fr hf hpB, h.hp, hb, h.at_le, h.lcap, h.small, h.bcap, h.bytes.fr hf (fun a ha => hpB _ (h.low a ha)), h.low, ownsRow_setCell_below h.own (by simp) _, h.olen⟩

theorem strInfo : ∃ i, Tryd.prog.info? 9 = some i ∧ i.zero = some (.string ⟨#[]⟩) ∧ i.size = 1 ∧ i.bytes = 16 := by
  have h : (Tryd.prog.info? 9).map (fun i => (i.zero, i.size, i.bytes)) = some (some (.string ⟨#[]⟩), 1, 16) := by kernel_rfl
  obtain ⟨i, hi, h1, h2, h3⟩ := info_parts h
  exact ⟨i, hi, h1, h2, h3⟩

/-- an element opened -/
theorem Rd.push {B : Nat} {w : World} {p : Nat} {r : R} (h : Rd B w p r) (nm : Gm.Bs) (g : Nat) (hc : w.cell? ⟨g, 0, none⟩ = some (.string ⟨nm.toArray⟩)) (hol : (Gm.closing (nm :: r.o)).length ≤ 4 * r.at_) :
    ∃ v' w', (Builtin.append_ #[51, 51] 51 #[r.ov, .slice (some ⟨g, 0, none⟩) 1 1]).run Tryd.prog w = .ok v' w' ∧ w'.frozen? ⟨p, 2, none⟩ = false ∧ (∃ u, w'.cell? ⟨p, 2, none⟩ = some u) ∧
      Rd B (w'.setCell ⟨p, 2, none⟩ v') p { r with o := nm :: r.o, ov := v' } ∧ Fr (above p) w (w'.setCell ⟨p, 2, none⟩ v') := by
  obtain ⟨i, hi, hz, hs, hb⟩ := strInfo
  have hlen : r.o.length ≤ 16777216 := by
    have := closing_ge r.o
    have := h.olen
    have := h.at_le
    have := h.small
    omega
  obtain ⟨v', w', hr, hown, hg, _⟩ := run_append_own (P := Tryd.prog) w (p + 1) 51 51 9 i _ 1 16 Tryd.underlying51 hi hz hs hb rfl (by omega) r.ov r.o.length (strsV r.o) h.own
    ⟨g, 0, none⟩ 1 1 [.string ⟨nm.toArray⟩] rfl (by
      intro j u hj
      cases j with
      | zero => simp at hj; subst hj; simpa [Addr.add] using hc
      | succ j => simp at hj) (by simp [Value.oneCell']) (by unfold maxLen; omega) (by omega) h.lt
  have hge : ∀ k, r.ov.ownBlock = some k → p + 1 ≤ k := by
    intro k hk
    obtain ⟨_, h2⟩ := h.own
    rcases h2 with ⟨h2, _⟩ | ⟨g', cap, cur, hv, hg', _⟩
    · rw [h2] at hk; cases hk
    · rw [hv] at hk; cases hk; exact hg'
  have hfr : Fr (fun k => p + 1 ≤ k) w w' := ⟨hg.os, hg.tape, hg.output, hg.size, fun k hk hn => hg.block k hk (fun e => hn (hge k e.symm))⟩
  have hblk : w'.heap[p]? = some (.cells r.cells 53 (0, 0)) := by rw [hfr.block p h.lt (by omega)]; exact h.blk
  have hset : Fr (fun k => k = p) w' (w'.setCell ⟨p, 2, none⟩ v') := Fr.setCell _ _ _ (.inl rfl)
  have hpB : ∀ k, k < B → ¬ p + 1 ≤ k := fun k hk e => by have := h.hp; omega
  have hpB2 : ∀ k, k < B → ¬ k = p := fun k hk e => by have := h.hp; omega
  have hb2 : (w'.setCell ⟨p, 2, none⟩ v').heap[p]? = some (.cells (R.cells { r with o := nm :: r.o, ov := v' }) 53 (0, 0)) := by
    simp only [World.setCell, Array.getElem?_modify, hblk, if_true, Option.map_some]
    rfl
  refine ⟨v', w', hr, ?_, ⟨r.ov, ?_⟩, ?_, (hfr.mono fun k _ hk => ?_).trans (hset.mono fun k _ hk => ?_)⟩
  · unfold World.frozen?
    rw [hblk]
    simp
  · unfold World.cell?
    rw [hblk]
    rfl
  · refine ⟨(h.env.fr hfr hpB).fr hset hpB2, h.hp, hb2, h.at_le, h.lcap, h.small, h.bcap, (h.bytes.fr hfr (fun a ha => hpB _ (h.low a ha))).fr hset (fun a ha => hpB2 _ (h.low a ha)), h.low, ?_, hol⟩
    refine ownsRow_setCell_below ?_ (by simp) _
    have e1 : (strsV (nm :: r.o)) = strsV r.o ++ [.string ⟨nm.toArray⟩] := by simp [strsV]
    rw [e1]
    exact hown
  · show p ≤ k
    omega
  · show p ≤ k
    omega
end Go.Proofs.YtghhakilkmbpdaaDoor
