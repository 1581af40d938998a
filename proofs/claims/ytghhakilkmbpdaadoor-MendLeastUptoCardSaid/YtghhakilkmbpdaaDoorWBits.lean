/- Bits as the walk spells them. -/
import Derived.Laws.DeepBits32
import Derived.Test.YtghhakilkmbpdaaDoorWBase
namespace Go.Proofs.YtghhakilkmbpdaaDoor
open Go Go.RowKit

theorem top_no {y : Nat} (hy : y < 256) (h : y / 64 = 2) : (bits BinOp.and IntKind.u8 (y : Int) 192 != 128) = false := by
  have e : ∀ n : Fin 256, n.val / 64 = 2 → (bits BinOp.and IntKind.u8 (n.val : Int) 192 != 128) = false := by decide +kernel
  exact e ⟨y, hy⟩ h
theorem top_yes {y : Nat} (hy : y < 256) (h : ¬ y / 64 = 2) : (bits BinOp.and IntKind.u8 (y : Int) 192 != 128) = true := by
  have e : ∀ n : Fin 256, ¬ n.val / 64 = 2 → (bits BinOp.and IntKind.u8 (n.val : Int) 192 != 128) = true := by decide +kernel
  exact e ⟨y, hy⟩ h

theorem and_low6 (x : Nat) (hx : x < 4294967296) : x &&& 4294967232 = x - x % 64 := by
  apply Nat.eq_of_testBit_eq
  intro i
  rw [Nat.testBit_and]
  have hc : (4294967232 : Nat) = 2 ^ 32 - 2 ^ 6 := by decide
  have h1 : Nat.testBit 4294967232 i = (decide (6 ≤ i) && decide (i < 32)) := by
    by_cases h : i < 40
    · have : ∀ n : Fin 40, Nat.testBit 4294967232 n.val = (decide (6 ≤ n.val) && decide (n.val < 32)) := by decide +kernel
      exact this ⟨i, h⟩
    · rw [Nat.testBit_lt_two_pow (Nat.lt_of_lt_of_le (show 4294967232 < 2 ^ 32 by decide) (Nat.pow_le_pow_right (by omega) (by omega)))]
      simp; omega
  have e : x - x % 64 = 2 ^ 6 * (x / 2 ^ 6) := by have := Nat.div_add_mod x 64; simp; omega
  rw [h1, e, Nat.testBit_two_pow_mul, ← Nat.shiftRight_eq_div_pow, Nat.testBit_shiftRight]
  by_cases hi : 6 ≤ i
  · have e2 : 6 + (i - 6) = i := by omega
    rw [e2]
    by_cases h32 : i < 32
    · simp [hi, h32]
    · rw [Nat.testBit_lt_two_pow (Nat.lt_of_lt_of_le (show x < 2 ^ 32 by simpa using hx) (Nat.pow_le_pow_right (by omega) (by omega)))]
      simp
  · simp [hi]
theorem andNot63 (x : Nat) (hx : x < 2147483648) : bits .andNot .i32 (x : Int) 63 = ((x - x % 64 : Nat) : Int) := by
  show IntKind.i32.wrap ((BitVec.ofInt 32 (x : Int) &&& ~~~BitVec.ofInt 32 63).toNat : Int) = _
  have h1 : (BitVec.ofInt 32 63).toNat = 63 := by decide
  rw [BitVec.toNat_and, BitVec.toNat_not, ofInt_u32 x (by omega), h1, show 2 ^ 32 - 1 - 63 = 4294967232 by decide, and_low6 x (by omega)]
  exact wrap_i32_small _ (by omega) (by omega)
theorem andNot_hi {h : Nat} (hh : h < 16777216) : bits .andNot .i32 ((h : Int) * 64 + 63) 63 = (h : Int) * 64 := by
  have := andNot63 (h * 64 + 63) (by omega)
  have e : h * 64 + 63 - (h * 64 + 63) % 64 = h * 64 := by omega
  rw [e] at this
  simpa using this
end Go.Proofs.YtghhakilkmbpdaaDoor

/- Walks: chars.of. -/
namespace Go.Proofs.YtghhakilkmbpdaaDoor
open Go Go.RowKit

theorem of_any {B : Nat} (c : Nat) (hc : c < 6) (w : World) (h : Env B w) :
    Calls Tryd.prog 50 #[.int .i64 c] w fun e w' => ∃ v, RngAt w v (Gm.rng c) ∧ e = .returned v ∧ w = w' := by
  obtain ⟨bk, off, cap, h1, h2, h3⟩ := h.rng c hc
  have hr : RngAt w (.slice (some ⟨bk, off, none⟩) (Gm.rng c).length cap) (Gm.rng c) := ⟨bk, off, cap, rfl, h3⟩
  have HR := Lib.hid hr
  clear h3 hr h
  have hlo : decide ((c : Int) < 0) = false := by simp
  have hhi : decide ((c : Int) ≥ 6) = false := by simp; omega
  go_enter Tryd.func50, Tryd.ntmps50
  go_wp2
  go_ret
  exact ⟨_, HR.out, rfl, rfl⟩

theorem isIn_drop (l : List (Nat × Nat)) (r k : Nat) (hk : k < l.length) : Gm.isIn (l.drop k) r = if r ≤ (l.getD k (0, 0)).2 then decide ((l.getD k (0, 0)).1 ≤ r) else Gm.isIn (l.drop (k + 1)) r := by
  rw [List.drop_eq_getElem_cons hk]
  simp only [Gm.isIn]
  have : l.getD k (0, 0) = l[k] := by simp [List.getD, hk]
  rw [this]

set_option maxHeartbeats 400000 in
theorem Is_any {B : Nat} (c : Nat) (hc : c < 6) (r : Nat) (w : World) (h : Env B w) :
    Calls Tryd.prog 46 #[.int .i64 c, .int .i32 r] w fun e w' => e = .returned (.bool (Gm.isC c r)) ∧ Fr S0 w w' := by
  go_enter Tryd.func46, Tryd.ntmps46
  go_wp2_with (go_at_call 50; refine (of_any c hc _ h).mono ?_; rintro e w' ⟨v, ⟨bk, off, cap, rfl, HR⟩, rfl, rfl⟩)
  have HR' := Lib.hid HR
  clear HR
  have hl31 : (Gm.rng c).length ≤ 100 := by
    match c, hc with
    | 0, _ | 1, _ | 2, _ | 3, _ | 4, _ | 5, _ => decide
  go_loopw [10] (fun i wr => ∃ k : Nat, k ≤ (Gm.rng c).length ∧ i = .int .i64 k ∧ Gm.isIn ((Gm.rng c).drop k) r = Gm.isC c r ∧ Fr S0 w wr) (fun i _ => (Gm.rng c).length - (intOf i).toNat)
  case atStart => exact ⟨0, Nat.zero_le _, rfl, rfl, Fr.refl _ _⟩
  case round =>
    obtain ⟨k, hk, rfl, hrel, hfr⟩ := hrel
    have HRel := Lib.hid hrel
    have HF := Lib.hid hfr
    clear hrel hfr
    by_cases hlt : k < (Gm.rng c).length
    · obtain ⟨c1, c2⟩ := HR'.out k hlt
      have hb := lt_of_cell c1
      have hf := HF.out
      rw [← hf.cell (p := ⟨bk, off + k * 2, none⟩) hb (fun h => h)] at c1
      rw [← hf.cell (p := ⟨bk, off + k * 2 + 1, none⟩) hb (fun h => h)] at c2
      have hd := isIn_drop (Gm.rng c) r k hlt
      have HD := Lib.hid hd
      clear hd hf
      generalize (Gm.rng c).getD k (0, 0) = s at c1 c2 HD
      by_cases hle : r ≤ s.2
      · go_wp2
        go_ret
        exact ⟨rb (by rw [← HRel.out, HD.out, if_pos hle]), HF.out.trans (Fr.alloc _ _ _)⟩
      · go_wp2
        go_roundw
        case rel => exact ⟨k + 1, by omega, by go_num, by rw [← HRel.out, HD.out, if_neg (by omega)], HF.out.trans (Fr.alloc _ _ _)⟩
        case measure => simp [intOf]; omega
    · go_wp2
      go_ret
      have e : k = (Gm.rng c).length := by omega
      have h2 := HRel.out
      rw [e, List.drop_length] at h2
      exact ⟨rb (by rw [← h2]; rfl), HF.out⟩
end Go.Proofs.YtghhakilkmbpdaaDoor
