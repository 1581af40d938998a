/- Walks: reader.must, reader.blank. -/
import Derived.Test.YtghhakilkmbpdaaDoorWEnd
namespace Go.Proofs.YtghhakilkmbpdaaDoor
open Go Go.RowKit

def only (p : Nat) : Nat → Prop := fun k => k = p

section
variable {B : Nat} {w : World} {p : Nat} {r : R}
theorem only_low (h : Rd B w p r) : ∀ k, k < B → ¬ only p k := fun k hk e => by have := h.hp; unfold only at e; omega
theorem ov_ne (h : Rd B w p r) : ∀ k, r.ov.ownBlock = some k → ¬ only p k := by
  intro k hk e
  obtain ⟨_, h2⟩ := h.own
  unfold only at e
  rcases h2 with ⟨h2, _⟩ | ⟨g, cap, cur, hvv, hg, _⟩
  · rw [h2] at hk; cases hk
  · rw [hvv] at hk; cases hk; simp at e; omega
end

set_option maxHeartbeats 800000 in
theorem must_end {B : Nat} {w : World} {p : Nat} {r : R} (h : Rd B w p r) (c : UInt8) (rest : Gm.Bs) (hrest : rest.length ≤ 1099511627776) (hend : r.at_ = r.b.length) :
    Calls Tryd.prog 32 #[.pointer (some ⟨p, 0, none⟩), .int .u8 c.toNat, .string ⟨rest.toArray⟩] w fun e w' =>
      e = stopE (-1) (rest ++ Gm.closing r.o ++ (if !r.root then [60, 65, 47, 62] else [])) ∧ Fr S0 w w' := by
  have HH := Lib.hid h
  have HE := Lib.hid hend
  have HR := Lib.hid hrest
  clear h hend hrest
  go_enter Tryd.func32, Tryd.ntmps32
  go_wp2_with fail
  refine (ended_yes HH.out HE.out).mono ?_
  rintro e w' ⟨rfl, n, rfl⟩
  go_wp2_with fail
  refine (end_any (HH.out.fr0 (Fr.drewN _ _ _)) rest HR.out).mono ?_
  rintro e w' ⟨rfl, hf⟩
  unfold stopE
  exact ⟨rfl, rfl, (Fr.drewN _ _ _).trans hf⟩

set_option maxHeartbeats 800000 in
theorem must_bad {B : Nat} {w : World} {p : Nat} {r : R} (h : Rd B w p r) (c : UInt8) (rest : Gm.Bs) (hlt : r.at_ < r.b.length) (hx : ¬ r.b.getD r.at_ 0 = c) :
    Calls Tryd.prog 32 #[.pointer (some ⟨p, 0, none⟩), .int .u8 c.toNat, .string ⟨rest.toArray⟩] w fun e w' => e = stopE r.at_ [] ∧ Fr S0 w w' := by
  have hne : ¬ r.at_ = r.b.length := by omega
  obtain ⟨bk, off, hao, hc⟩ := h.byte hlt
  have c0 := h.c0
  have c1 := h.c1
  rw [hao] at c0
  have hx' : ((((r.b.getD r.at_ 0).toNat : Int)) != (c.toNat : Int)) = true := by
    rw [bne_iff_ne]; intro e; exact hx (by rw [← UInt8.toNat_inj]; omega)
  have HH := Lib.hid h
  have HE := Lib.hid hne
  clear h hne hx hao
  generalize r.b.getD r.at_ 0 = x at *
  go_enter Tryd.func32, Tryd.ntmps32
  go_wp2_with fail
  refine (ended_no HH.out HE.out).mono ?_
  rintro e w' ⟨rfl, n, rfl⟩
  go_wp2_with fail
  go_quiet (fail)
  go_wp2_with fail
  refine (wrong_any r.at_ _).mono ?_
  rintro e w' ⟨rfl, hf⟩
  unfold stopE
  exact ⟨rfl, rfl, (Fr.drewN _ _ _).trans hf⟩

set_option maxHeartbeats 800000 in
theorem must_ok {B : Nat} {w : World} {p : Nat} {r : R} (h : Rd B w p r) (c : UInt8) (rest : Gm.Bs) (hlt : r.at_ < r.b.length) (hx : r.b.getD r.at_ 0 = c) :
    Calls Tryd.prog 32 #[.pointer (some ⟨p, 0, none⟩), .int .u8 c.toNat, .string ⟨rest.toArray⟩] w fun e w' => e = .returned (.tuple #[]) ∧ Rd B w' p { r with at_ := r.at_ + 1 } ∧ Fr (only p) w w' := by
  have hne : ¬ r.at_ = r.b.length := by omega
  obtain ⟨bk, off, hao, hc⟩ := h.byte hlt
  have c0 := h.c0
  have c1 := h.c1
  have f1 := h.fz 1
  have hsm := h.small
  rw [hao] at c0
  have hx' : ((((r.b.getD r.at_ 0).toNat : Int)) != (c.toNat : Int)) = false := by
    rw [bne_eq_false_iff_eq, hx]
  have HH := Lib.hid h
  have HE := Lib.hid hne
  have HL := Lib.hid hlt
  clear h hne hx hao
  generalize r.b.getD r.at_ 0 = x at *
  go_enter Tryd.func32, Tryd.ntmps32
  go_wp2_with fail
  refine (ended_no HH.out HE.out).mono ?_
  rintro e w' ⟨rfl, n, rfl⟩
  go_wp2_with fail
  go_quiet (fail)
  go_wp2
  go_end0
  exact ⟨rfl, (HH.out.fr0 (Fr.drewN _ _ _)).moved (r.at_ + 1) (by omega) HL.out, (Fr.drewN _ _ _).trans (Fr.setCell _ _ _ (.inl rfl))⟩

/-- blanks: gone past -/
def BlankPost (B : Nat) (w : World) (p : Nat) (r : R) (e : Ending) (w' : World) : Prop :=
  ∃ n, r.at_ ≤ n ∧ n ≤ r.b.length ∧ (∀ i, r.at_ ≤ i → i < n → isIt [32, 9, 10, 13] r.b i = true) ∧ isIt [32, 9, 10, 13] r.b n = false ∧
    e = .returned (.bool (decide (r.at_ < n))) ∧ Rd B w' p { r with at_ := n } ∧ Fr (only p) w w'

theorem isIt_lt {set b : Gm.Bs} {n : Nat} (h : isIt set b n = true) : n < b.length := by
  unfold isIt at h
  split at h
  · rename_i x hx; exact (List.getElem?_eq_some_iff.1 hx).1
  · cases h

set_option maxHeartbeats 800000 in
theorem blank_any {B : Nat} {w : World} {p : Nat} {r : R} (h : Rd B w p r) :
    Calls Tryd.prog 16 #[.pointer (some ⟨p, 0, none⟩)] w (BlankPost B w p r) := by
  have c1 := h.c1
  have hsm := h.small
  have hle := h.at_le
  have HH := Lib.hid h
  clear h
  go_enter Tryd.func16, Tryd.ntmps16
  go_wp2_with fail
  clear c1
  go_loopg [] (r.b.length - r.at_) (fun k wr => ∃ n, r.at_ ≤ n ∧ n ≤ r.b.length ∧ k = r.b.length - n ∧ (∀ i, r.at_ ≤ i → i < n → isIt [32, 9, 10, 13] r.b i = true) ∧ Rd B wr p { r with at_ := n } ∧ Fr (only p) w wr)
  case atStart => exact ⟨r.at_, Nat.le_refl _, hle, rfl, fun i h1 h2 => by omega, HH.out, Fr.refl _ _⟩
  case round =>
    obtain ⟨n, h1, h2, hk, h3, hr, hf⟩ := hrel
    have H3 := Lib.hid h3
    have HR := Lib.hid hr
    have HF := Lib.hid hf
    have HK := Lib.hid hk
    clear h3 hr hf hk
    cases hi : isIt [32, 9, 10, 13] r.b n with
    | true =>
      have hn := isIt_lt hi
      have HI := Lib.hid hi
      clear hi
      go_wp2_with fail
      refine (is_any HR.out [32, 9, 10, 13]).mono ?_
      simp only [HI.out]
      rintro e w' ⟨rfl, q, rfl⟩
      have c1 := HR.out.c1
      have f1 := HR.out.fz 1
      simp only at c1
      go_wp2
      go_roundg (r.b.length - (n + 1))
      case measure => rw [HK.out]; omega
      case rel =>
        refine ⟨n + 1, by omega, by omega, rfl, fun i hi1 hi2 => ?_, ?_, ?_⟩
        · by_cases e : i = n
          · rw [e]; exact HI.out
          · exact H3.out i hi1 (by omega)
        · exact (HR.out.fr0 (Fr.drewN _ _ _)).moved (n + 1) (by simp) hn
        · exact (HF.out.trans (Fr.drewN _ _ _)).trans (Fr.setCell _ _ _ (.inl rfl))
    | false =>
      have HI := Lib.hid hi
      clear hi
      go_wp2_with fail
      refine (is_any HR.out [32, 9, 10, 13]).mono ?_
      simp only [HI.out]
      rintro e w' ⟨rfl, q, rfl⟩
      have c1 := HR.out.c1
      simp only at c1
      go_wp2
      go_ret
      exact ⟨n, h1, h2, H3.out, HI.out, rb (by rw [Bool.eq_iff_iff]; try simp), HR.out.fr0 (Fr.drewN _ _ _), HF.out.trans (Fr.drewN _ _ _)⟩
end Go.Proofs.YtghhakilkmbpdaaDoor
