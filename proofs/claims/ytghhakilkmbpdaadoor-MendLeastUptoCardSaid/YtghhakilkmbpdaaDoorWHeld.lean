/- Walks: the statement's held. -/
import Derived.Test.YtghhakilkmbpdaaDoorWJoin
namespace Gm
theorem less_not : ∀ (r t : Bs), lexLE r t → Go.Op.bytesLess t r = false
  | [], t, _ => by cases t <;> rfl
  | a :: r, [], h => by cases h
  | a :: r, b :: t, h => by
    simp only [Go.Op.bytesLess]
    rcases h with h | ⟨rfl, h⟩
    · have h1 : ¬ b < a := fun h2 => absurd (UInt8.lt_trans h h2) (UInt8.lt_irrefl a)
      have h2 : ¬ b = a := by rintro rfl; exact UInt8.lt_irrefl _ h
      simp [h1, h2]
    · simp [less_not r t h, UInt8.lt_irrefl]
end Gm
namespace Go.Proofs.YtghhakilkmbpdaaDoor
open Go Go.RowKit

/-- these bytes do not better the others -/
def heldOk (b r t : Gm.Bs) : Prop := r.length < t.length ∨ (t.length = r.length ∧ Op.bytesLess t r = false) ∨ isDoc (b ++ t) = false

theorem held_rest {b : Gm.Bs} {s : Gm.K} (h : Gm.K.init.run b = some s) (t : Gm.Bs) : heldOk b s.rest t := by
  cases hd : isDoc (b ++ t) with
  | false => exact .inr (.inr hd)
  | true =>
    rcases Gm.rest_least h ((isDoc_iff _).1 hd) with h1 | ⟨h1, h2⟩
    · exact .inl h1
    · exact .inr (.inl ⟨h1.symm, Gm.less_not _ _ h2⟩)

set_option maxRecDepth 100000 in
set_option maxHeartbeats 2000000 in
theorem held_any {B : Nat} {w : World} (h : Env B w) {ao ro to_ : Option Addr} {ca cr ct : Nat} {b r t : Gm.Bs} (hb : In w ao ca b) (hr : In w ro cr r) (ht : In w to_ ct t) (hl : (b ++ t).length ≤ 4194304) (hok : heldOk b r t) :
    Calls Tryd.prog 8 #[.slice ao b.length ca, .slice ro r.length cr, .slice to_ t.length ct] w fun e w' => e = .returned (.bool true) ∧ Fr S0 w w' := by
  have hrl := hr.small
  have htl := ht.small
  have hcr := conv_str hr.at_ cr
  have hct := conv_str ht.at_ ct
  have hj : ∀ W, Fr S0 w W → Calls Tryd.prog 7 #[.slice ao b.length ca, .slice to_ t.length ct] W fun e w' => ∃ g cap, e = .returned (.slice (some ⟨g, 0, none⟩) (b.length + t.length) cap) ∧ W.heap.size ≤ g ∧ In w' (some ⟨g, 0, none⟩) cap (b ++ t) ∧ Fr S0 W w' := fun W hW => joined_any (hb.fr hW) (ht.fr hW) hl
  have HJ := Lib.hid hj
  have HEnv := Lib.hid h
  clear h hb hr ht hl hj
  have htr := toList_list r
  have htt := toList_list t
  by_cases h1 : r.length < t.length
  · have g1 : decide (r.length < t.length) = true := by simpa using h1
    clear hok h1
    go_enter Tryd.func8, Tryd.ntmps8
    go_wp2_with fail
    go_ret
    exact ⟨rfl, Fr.refl _ _⟩
  · have g1 : decide (r.length < t.length) = false := by simpa using h1
    by_cases h2 : t.length = r.length ∧ Op.bytesLess t r = false
    · obtain ⟨h3, h4⟩ := h2
      have g3 : ((t.length : Int) == (r.length : Int)) = true := by rw [beq_iff_eq]; omega
      have g3' : (t.length == r.length) = true := by rw [beq_iff_eq]; omega
      have H3 := Lib.hid h3
      clear hok h1 h3
      generalize t.length = tl at *
      generalize r.length = rl at *
      go_enter Tryd.func8, Tryd.ntmps8
      go_wp2_with fail
      go_ret
      exact ⟨rfl, Fr.refl _ _⟩
    · have hno : isDoc (b ++ t) = false := by
        rcases hok with h | h | h
        · exact absurd h h1
        · exact absurd h h2
        · exact h
      have HNO := Lib.hid hno
      by_cases h3 : t.length = r.length
      · have h4 : Op.bytesLess t r = true := by
          cases h : Op.bytesLess t r with
          | true => rfl
          | false => exact absurd ⟨h3, h⟩ h2
        have g3 : ((t.length : Int) == (r.length : Int)) = true := by rw [beq_iff_eq]; omega
        have g3' : (t.length == r.length) = true := by rw [beq_iff_eq]; omega
        have H3 := Lib.hid h3
        clear hok h1 h2 h3 hno
        go_enter Tryd.func8, Tryd.ntmps8
        go_wp2_with fail
        clear hcr hct htr htt
        refine (HJ.out w (Fr.refl _ _)).mono ?_
        rintro e w1 ⟨g, cap, rfl, hge, hin, hf1⟩
        have HI1 := Lib.hid hin
        have HF1 := Lib.hid hf1
        clear hin hf1
        go_wp2_with fail
        refine (Document_n (HEnv.out.fr0 HF1.out) HI1.out (by simp)).mono ?_
        rintro e w2 ⟨rfl, hf2⟩
        rw [HNO.out]
        have HF2 := Lib.hid hf2
        clear hf2
        go_wp2_with fail
        go_ret
        exact ⟨rfl, HF1.out.trans HF2.out⟩
      · have g3 : ((t.length : Int) == (r.length : Int)) = false := by rw [beq_eq_false_iff_ne]; omega
        have g3' : (t.length == r.length) = false := by rw [beq_eq_false_iff_ne]; omega
        clear hok h1 h2 h3 hno
        go_enter Tryd.func8, Tryd.ntmps8
        go_wp2_with fail
        clear hcr hct htr htt
        refine (HJ.out w (Fr.refl _ _)).mono ?_
        rintro e w1 ⟨g, cap, rfl, hge, hin, hf1⟩
        have HI1 := Lib.hid hin
        have HF1 := Lib.hid hf1
        clear hin hf1
        go_wp2_with fail
        refine (Document_n (HEnv.out.fr0 HF1.out) HI1.out (by simp)).mono ?_
        rintro e w2 ⟨rfl, hf2⟩
        rw [HNO.out]
        have HF2 := Lib.hid hf2
        clear hf2
        go_wp2_with fail
        go_ret
        exact ⟨rfl, HF1.out.trans HF2.out⟩

theorem held_n {B : Nat} {w : World} (h : Env B w) {ao ro to_ : Option Addr} {ca cr ct m : Nat} {b r t : Gm.Bs} (hb : In w ao ca b) (hr : In w ro cr r) (ht : In w to_ ct t) (hm : t.length = m) (hl : (b ++ t).length ≤ 4194304) (hok : heldOk b r t) :
    Calls Tryd.prog 8 #[.slice ao b.length ca, .slice ro r.length cr, .slice to_ m ct] w fun e w' => e = .returned (.bool true) ∧ Fr S0 w w' := by
  subst hm; exact held_any h hb hr ht hl hok
end Go.Proofs.YtghhakilkmbpdaaDoor
