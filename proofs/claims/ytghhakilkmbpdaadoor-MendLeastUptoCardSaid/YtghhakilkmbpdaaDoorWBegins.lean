/- Walks: chars.Begins. -/
import Derived.Test.YtghhakilkmbpdaaDoorWReach
namespace Go.Proofs.YtghhakilkmbpdaaDoor
open Go Go.RowKit

theorem rng_len (c : Nat) (hc : c < 6) : (Gm.rng c).length ≤ 100 := by
  match c, hc with
  | 0, _ | 1, _ | 2, _ | 3, _ | 4, _ | 5, _ => decide

theorem meets_drop (lo hi : Nat) (l : List (Nat × Nat)) (k : Nat) (hk : k < l.length) :
    Gm.meets lo hi (l.drop k) = if max lo (l.getD k (0, 0)).1 ≤ min hi (l.getD k (0, 0)).2 then true else Gm.meets lo hi (l.drop (k + 1)) := by
  rw [List.drop_eq_getElem_cons hk]
  simp only [Gm.meets]
  have : l.getD k (0, 0) = l[k] := by simp [List.getD, hk]
  rw [this]

set_option maxHeartbeats 800000 in
theorem Begins_any {B : Nat} (c : Nat) (hc : c < 6) (b : Gm.Bs) (ao : Option Addr) (cap : Nat) (w : World) (h : Env B w) (hb : BAt w ao b) (hm : b.length ≤ 9223372036854775807) :
    Calls Tryd.prog 39 #[.int .i64 c, .slice ao b.length cap] w fun e w' => e = .returned (.bool (Gm.begins c b)) ∧ Fr S0 w w' := by
  have hr := reach_any b ao cap w hb hm
  cases hreach : Gm.reach b with
  | none =>
    have hbeg : Gm.begins c b = false := by simp [Gm.begins, hreach]
    rw [hreach] at hr
    have HB := Lib.hid hbeg
    have HR := Lib.hid hr
    clear hr hreach hbeg
    go_enter Tryd.func39, Tryd.ntmps39
    go_wp2_with (go_at_call 49; refine HR.out.mono ?_; rintro e w' ⟨rfl, rfl⟩; simp only [reachV])
    go_ret
    exact ⟨rb HB.out.symm, Fr.refl _ _⟩
  | some p =>
    obtain ⟨lo, hi⟩ := p
    have hbeg : Gm.begins c b = Gm.meets lo hi (Gm.rng c) := by simp [Gm.begins, hreach]
    rw [hreach] at hr
    have HB := Lib.hid hbeg
    have HR := Lib.hid hr
    clear hr hreach hbeg
    go_enter Tryd.func39, Tryd.ntmps39
    go_wp2_with (first | (go_at_call 49; refine HR.out.mono ?_; rintro e w' ⟨rfl, rfl⟩; simp only [reachV]) | (go_at_call 50; refine (of_any c hc _ h).mono ?_; rintro e w' ⟨v, ⟨bk, off, cap, rfl, HRng⟩, rfl, rfl⟩))
    have HR' := Lib.hid HRng
    have hl31 := rng_len c hc
    clear HRng
    go_loopw [21] (fun i wr => ∃ k : Nat, k ≤ (Gm.rng c).length ∧ i = .int .i64 k ∧ Gm.meets lo hi ((Gm.rng c).drop k) = Gm.begins c b ∧ Fr S0 w wr) (fun i _ => (Gm.rng c).length - (intOf i).toNat)
    case atStart => exact ⟨0, Nat.zero_le _, rfl, HB.out.symm, Fr.refl _ _⟩
    case round =>
      obtain ⟨k, hk, rfl, hrel, hfr⟩ := hrel
      have HRel := Lib.hid hrel
      have HF := Lib.hid hfr
      clear hrel hfr
      by_cases hlt : k < (Gm.rng c).length
      · obtain ⟨c1, c2⟩ := HR'.out k hlt
        have hf := HF.out
        replace c1 := (hf.cell (lt_of_cell c1) (fun h => h)).trans c1
        replace c2 := (hf.cell (lt_of_cell c2) (fun h => h)).trans c2
        have hd := meets_drop lo hi (Gm.rng c) k hlt
        have HD := Lib.hid hd
        clear hd hf
        generalize (Gm.rng c).getD k (0, 0) = s at c1 c2 HD
        by_cases hle : max lo s.1 ≤ min hi s.2
        · go_wp2
          go_ret
          exact ⟨rb (by rw [← HRel.out, HD.out, if_pos hle]), HF.out.trans (Fr.alloc _ _ _)⟩
        · go_wp2
          go_roundw
          case rel => exact ⟨k + 1, by omega, by go_num, by rw [← HRel.out, HD.out, if_neg hle], HF.out.trans (Fr.alloc _ _ _)⟩
          case measure => simp [intOf]; omega
      · go_wp2
        go_ret
        have e : k = (Gm.rng c).length := by omega
        have h2 := HRel.out
        rw [e, List.drop_length] at h2
        exact ⟨rb (by rw [← h2]; rfl), HF.out⟩
end Go.Proofs.YtghhakilkmbpdaaDoor
