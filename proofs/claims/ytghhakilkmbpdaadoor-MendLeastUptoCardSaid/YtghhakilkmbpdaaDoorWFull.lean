/- Walks: mend.full, mend.completion. -/
import Derived.Test.YtghhakilkmbpdaaDoorWDec
namespace Go.Proofs.YtghhakilkmbpdaaDoor
open Go Go.RowKit

theorem decode_str {B : Nat} (b : Gm.Bs) (hb : b ≠ []) (w : World) (h : Env B w) :
    Calls Tryd.prog 54 #[.string ⟨b.toArray⟩] w fun e w' => e = .returned (.tuple #[.int .i32 (decL b).1, .int .i64 (decL b).2]) ∧ Fr S0 w w' := by
  have := Tryd.utf8_DecodeRuneInString ⟨b.toArray⟩ w h.u8
  rw [decodeGo_list b hb] at this
  exact this.mono fun e w' ⟨he, hw⟩ => ⟨he, Fr.of_below hw⟩

theorem full_any {B : Nat} {c : Nat} (hc : c < 6) (b : Gm.Bs) (hb : Gm.begins c b = true) (w : World) (h : Env B w) :
    Calls Tryd.prog 48 #[.string ⟨b.toArray⟩] w fun e w' => e = .returned (.bool (Gm.whole b)) ∧ Fr S0 w w' := by
  have hd := decode_str b (Gm.begins_ne hb) w h
  obtain ⟨d1, d2⟩ := dec_begins hc hb
  have hl1 : 1 ≤ b.length := by have := Gm.begins_ne hb; cases b <;> simp_all
  have hs : (⟨b.toArray⟩ : ByteArray).size = b.length := by simp [ByteArray.size]
  cases hw : Gm.whole b with
  | true =>
    obtain ⟨r, e, e1, _⟩ := d1 hw
    rw [e] at hd
    have hb4 : b.length ≤ 4 := by
      cases b with
      | nil => simp
      | cons x t =>
        obtain ⟨wd, l, least, k, hl, hk, _⟩ := Gm.begins_lead hb
        have := Gm.lead_le hl; simp; omega
    have HD := Lib.hid hd
    have HS := Lib.hid hs
    clear hd d1 d2 e hs
    have g1 : ((b.length : Int) == (b.length : Int)) = true := by simp
    by_cases hone : b.length = 1
    · have hr := e1 hone
      rw [hone] at HD
      clear e1
      have HO := Lib.hid hone
      clear hone
      go_enter Tryd.func48, Tryd.ntmps48
      go_wp2_with (go_at_call 54; refine HD.out.mono ?_; rintro e w' ⟨rfl, HF⟩)
      all_goals go_ret
      all_goals first | exact ⟨rb (by simp; omega), HF⟩ | (exfalso; have := HO.out; omega)
    · have hgt : 1 < b.length := by omega
      clear e1
      go_enter Tryd.func48, Tryd.ntmps48
      go_wp2_with (go_at_call 54; refine HD.out.mono ?_; rintro e w' ⟨rfl, HF⟩)
      all_goals go_ret
      all_goals exact ⟨rb (by simp), HF⟩
  | false =>
    rw [d2 hw] at hd
    have HD := Lib.hid hd
    have HS := Lib.hid hs
    clear hd d1 d2 hs
    by_cases hone : b.length = 1
    · have HO := Lib.hid hone
      clear hone
      go_enter Tryd.func48, Tryd.ntmps48
      go_wp2_with (go_at_call 54; refine HD.out.mono ?_; rintro e w' ⟨rfl, HF⟩)
      all_goals go_ret
      all_goals first | exact ⟨rfl, HF⟩ | exact ⟨rb (by simp), HF⟩
    · have g1 : ((1 : Int) == (b.length : Int)) = false := by simp; omega
      go_enter Tryd.func48, Tryd.ntmps48
      go_wp2_with (go_at_call 54; refine HD.out.mono ?_; rintro e w' ⟨rfl, HF⟩)
      all_goals go_ret
      all_goals first | exact ⟨rfl, HF⟩ | exact ⟨rb (by simp), HF⟩
end Go.Proofs.YtghhakilkmbpdaaDoor
