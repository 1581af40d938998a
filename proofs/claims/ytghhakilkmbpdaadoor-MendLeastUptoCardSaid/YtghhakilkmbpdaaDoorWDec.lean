/- What Go's decoder says of bytes that begin a character of a class. -/
import Derived.Test.YtghhakilkmbpdaaDoorWBegins
namespace Go.Proofs.YtghhakilkmbpdaaDoor
open Go Go.RowKit Gm

theorem get_list (l : Bs) (i : Nat) : (⟨l.toArray⟩ : ByteArray).get! i = l.getD i 0 := by
  unfold ByteArray.get!
  simp [List.getD, Array.getElem!_eq_getD, Array.getD_eq_getD_getElem?]
  rfl

def decL (b : Bs) : Nat × Nat := Lib.decodeN b.length (b.getD 0 0).toNat (b.getD 1 0).toNat (b.getD 2 0).toNat (b.getD 3 0).toNat

theorem decodeGo_list (b : Bs) (h : b ≠ []) : Lib.decodeGo ⟨b.toArray⟩ = decL b := by
  have hs : (⟨b.toArray⟩ : ByteArray).size = b.length := by simp [ByteArray.size]
  unfold Lib.decodeGo
  rw [hs, if_neg (by simpa using h), Lib.decode_at, hs]
  simp only [get_list, decL, Nat.sub_zero, Nat.zero_add]

theorem no_surrogate (c : Nat) (hc : c < 6) : ∀ s ∈ rng c, s.2 < 0xD800 ∨ 0xDFFF < s.1 := by
  match c, hc with
  | 0, _ | 1, _ | 2, _ | 3, _ | 4, _ | 5, _ => decide

set_option maxHeartbeats 1600000 in
theorem dec_begins {c : Nat} (hc : c < 6) {b : Bs} (h : begins c b = true) :
    (whole b = true → ∃ r, decL b = (r, b.length) ∧ (b.length = 1 → r < 128) ∧ r ≤ 0x10FFFF ∧ isC c r = true ∧ (128 ≤ r ∨ b.length = 1)) ∧ (whole b = false → decL b = (65533, 1)) := by
  cases b with
  | nil => exact absurd rfl (begins_ne h)
  | cons x t =>
    obtain ⟨wd, l, least, k, hl, hk, hct, hm⟩ := begins_lead h
    have hx : x.toNat < 256 := x.toNat_lt
    obtain ⟨r, h1, h2, s, hs, h3, h4⟩ := (meets_iff_mem _ _ _).1 hm
    have hsur := no_surrogate c hc s hs
    refine ⟨fun hw => ?_, fun hw => ?_⟩
    · have hk0 : k = 0 := by simp [whole, width_of hl] at hw; omega
      subst hk0
      simp only [Nat.pow_zero, Nat.mul_one, Nat.sub_self, Nat.add_zero] at h1 h2
      have hr : val t l = r := by omega
      refine ⟨r, ?_, ?_, by omega, (isC_iff c r).2 ⟨s, hs, h3, h4⟩, ?_⟩
      · unfold decL Lib.decodeN
        unfold lead at hl
        match t, hk with
        | [], hk => 
          simp [val] at hr hl ⊢
          repeat' split at hl
          all_goals simp at hl
          all_goals simp_all
          all_goals omega
        | [y], hk =>
          have hy : y.toNat < 256 := y.toNat_lt
          simp [val, conts] at hr hct ⊢
          repeat' split at hl
          all_goals simp at hl hk
          all_goals try omega
          all_goals (obtain ⟨rfl, rfl, rfl⟩ := hl)
          repeat' split
          all_goals first | (simp; omega) | omega
        | [y, z], hk =>
          have hy : y.toNat < 256 := y.toNat_lt
          have hz : z.toNat < 256 := z.toNat_lt
          simp [val, conts] at hr hct ⊢
          repeat' split at hl
          all_goals simp at hl hk
          all_goals try omega
          all_goals (obtain ⟨rfl, rfl, rfl⟩ := hl)
          repeat' split
          all_goals first | (simp; omega) | omega
        | [y, z, u], hk =>
          have hy : y.toNat < 256 := y.toNat_lt
          have hz : z.toNat < 256 := z.toNat_lt
          have hu : u.toNat < 256 := u.toNat_lt
          simp [val, conts] at hr hct ⊢
          repeat' split at hl
          all_goals simp at hl hk
          all_goals try omega
          all_goals (obtain ⟨rfl, rfl, rfl⟩ := hl)
          repeat' split
          all_goals first | (simp; omega) | omega
        | _ :: _ :: _ :: _ :: _, hk =>
          have := lead_le (x := x.toNat) (by unfold lead; exact hl)
          simp at hk; omega
      · intro h1'
        simp at h1'
        subst h1'
        simp [val] at hr
        unfold lead at hl
        repeat' split at hl
        all_goals simp at hl hk
        all_goals omega
      · cases t with
        | nil => right; rfl
        | cons y t =>
          left
          unfold lead at hl
          repeat' split at hl
          all_goals simp at hl hk
          all_goals omega
    · have hk0 : k ≠ 0 := by
        rintro rfl
        simp [whole, width_of hl] at hw
        omega
      unfold decL Lib.decodeN
      unfold lead at hl
      match t, hk with
      | [], hk =>
        simp at hk ⊢
        repeat' split at hl
        all_goals simp at hl
        all_goals (try omega)
        all_goals (repeat' split)
        all_goals first | rfl | (exfalso; omega)
      | [y], hk =>
        simp at hk ⊢
        repeat' split at hl
        all_goals simp at hl
        all_goals (try omega)
        all_goals (repeat' split)
        all_goals first | rfl | (exfalso; omega)
      | [y, z], hk =>
        simp at hk ⊢
        repeat' split at hl
        all_goals simp at hl
        all_goals (try omega)
        all_goals (repeat' split)
        all_goals first | rfl | (exfalso; omega)
      | _ :: _ :: _ :: _, hk =>
        have := lead_le (x := x.toNat) (by unfold lead; exact hl)
        simp at hk; omega
end Go.Proofs.YtghhakilkmbpdaaDoor
