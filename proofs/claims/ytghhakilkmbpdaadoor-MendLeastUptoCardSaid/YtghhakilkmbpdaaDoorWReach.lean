/- Walks: chars.reach. (Printed by wip/gen/reach.py.) -/
import Derived.Test.YtghhakilkmbpdaaDoorWBits
namespace Go.Proofs.YtghhakilkmbpdaaDoor
open Go Go.RowKit

/-- a slice of bytes, in memory -/
def BAt (w : World) (ao : Option Addr) (b : Gm.Bs) : Prop :=
  b = [] ∨ ∃ bk off, ao = some ⟨bk, off, none⟩ ∧ ∀ j, j < b.length → w.cell? ⟨bk, off + j, none⟩ = some (.int .u8 (b.getD j 0).toNat)

theorem BAt.fr {S : Nat → Prop} {w w' : World} {ao : Option Addr} {b : Gm.Bs} (h : BAt w ao b) (hf : Fr S w w') (hs : ∀ a, ao = some a → ¬ S a.block) : BAt w' ao b := by
  rcases h with h | ⟨bk, off, rfl, h⟩
  · exact .inl h
  · refine .inr ⟨bk, off, rfl, fun j hj => ?_⟩
    rw [hf.cell (p := ⟨bk, off + j, none⟩) (lt_of_cell (h j hj)) (hs ⟨bk, off, none⟩ rfl)]
    exact h j hj

def reachV : Option (Nat × Nat) → Value
  | none => .tuple #[.int .i32 0, .int .i32 0, .bool false]
  | some p => .tuple #[.int .i32 p.1, .int .i32 p.2, .bool true]

theorem rtup {a b : Value} (h : a = b) : Ending.returned a = .returned b := by rw [h]

theorem tailing_in (W k : Nat) (b : Gm.Bs) (lo hi : Nat) (hk : k < W) (hb : k < b.length) :
    Gm.tailing (W - k) (b.drop k) lo hi = if (b.getD k 0).toNat / 64 = 2 then Gm.tailing (W - (k + 1)) (b.drop (k + 1)) (lo * 64 + (b.getD k 0).toNat % 64) (hi * 64 + (b.getD k 0).toNat % 64) else none := by
  obtain ⟨m, hm⟩ : ∃ m, W - k = m + 1 := ⟨W - k - 1, by omega⟩
  rw [hm, List.drop_eq_getElem_cons hb, show W - (k + 1) = m by omega]
  have : b.getD k 0 = b[k] := by simp [List.getD, hb]
  rw [this]
  rfl
theorem tailing_out (W k : Nat) (b : Gm.Bs) (lo hi : Nat) (hk : k < W) (hb : b.length ≤ k) :
    Gm.tailing (W - k) (b.drop k) lo hi = Gm.tailing (W - (k + 1)) (b.drop (k + 1)) (lo * 64) (hi * 64 + 63) := by
  obtain ⟨m, hm⟩ : ∃ m, W - k = m + 1 := ⟨W - k - 1, by omega⟩
  rw [hm, List.drop_of_length_le hb, List.drop_of_length_le (by omega), show W - (k + 1) = m by omega]
  rfl
theorem reach_of (b : Gm.Bs) (W L least : Nat) (hl : 1 ≤ b.length) (hw : b.length ≤ W) (hlead : Gm.lead (b.getD 0 0).toNat = some (W, L, least)) :
    Gm.reach b = (Gm.tailing (W - 1) (b.drop 1) L L).map fun p => (max p.1 least, min p.2 0x10FFFF) := by
  match b, hl with
  | x :: t, _ =>
    simp only [List.getD_cons_zero] at hlead
    simp only [Gm.reach, hlead]
    rw [if_neg (by simp at hw; omega)]
    rfl
theorem reach_over (b : Gm.Bs) (W L least : Nat) (hl : 1 ≤ b.length) (hw : W < b.length) (hlead : Gm.lead (b.getD 0 0).toNat = some (W, L, least)) : Gm.reach b = none := by
  match b, hl with
  | x :: t, _ => exact Gm.reach_long hlead (by simp at hw; omega)
theorem reach_bad (b : Gm.Bs) (hl : 1 ≤ b.length) (hlead : Gm.lead (b.getD 0 0).toNat = none) : Gm.reach b = none := by
  match b, hl with
  | x :: t, _ => simp only [List.getD_cons_zero] at hlead; simp only [Gm.reach, hlead]

theorem lead_1 {x : Nat} (h1 : 0 ≤ x) (h2 : x < 0x80) : Gm.lead x = some (1, x, 0) := by
  unfold Gm.lead
  repeat' split
  all_goals first | rfl | omega
set_option maxRecDepth 100000 in
set_option maxHeartbeats 1600000 in
theorem reach_1 (b : Gm.Bs) (bk off cap : Nat) (w : World) (hl : 1 ≤ b.length) (hl4 : b.length ≤ 4) (h : ∀ j, j < b.length → w.cell? ⟨bk, off + j, none⟩ = some (.int .u8 (b.getD j 0).toNat))
    (hx1 : 0 ≤ (b.getD 0 0).toNat) (hx2 : (b.getD 0 0).toNat < 0x80) :
    Calls Tryd.prog 49 #[.slice (some ⟨bk, off, none⟩) b.length cap] w fun e w' => e = .returned (reachV (Gm.reach b)) ∧ w = w' := by
  have h0 : w.cell? ⟨bk, off, none⟩ = some (.int .u8 (b.getD 0 0).toNat) := h 0 hl
  have HY := Lib.hid h
  clear h
  have hlead := lead_1 hx1 hx2
  have hov := fun h => reach_over b 1 _ 0 hl h hlead
  have hre := fun h => reach_of b 1 _ 0 hl h hlead
  have HO := Lib.hid hov
  have HE := Lib.hid hre
  clear hlead hov hre
  generalize (b.getD 0 0).toNat = x at h0 hx1 hx2 HO HE
  have e0 : ((b.length : Int) == 0) = false := by simp; intro h; simp [h] at hl
  have e1 : decide ((b.length : Int) > 4) = false := by simp; omega
  by_cases hW : 1 < b.length
  · first
    | (exfalso; omega)
    | (go_enter Tryd.func49, Tryd.ntmps49
       go_wp2
       go_ret3
       exact ⟨rtup (by rw [HO.out hW]; rfl), rfl⟩)
  · go_enter Tryd.func49, Tryd.ntmps49
    go_wp2
    go_loop [2, 3, 8] (fun lo hi i => ∃ k lo' hi' : Nat, 1 ≤ k ∧ k ≤ 1 ∧ i = .int .i64 k ∧ lo = .int .i32 lo' ∧ hi = .int .i32 hi' ∧ lo' ≤ hi' ∧ hi' < 128 * 64 ^ (k - 1) ∧ Gm.tailing (1 - k) (b.drop k) lo' hi' = Gm.tailing (1 - 1) (b.drop 1) (x) (x)) (fun _ _ i => 1 - (intOf i).toNat)
    case atStart => exact ⟨1, x, x, by omega, by omega, rfl, by first | rfl | go_num, by first | rfl | go_num, by omega, by simp; omega, rfl⟩
    case round =>
      obtain ⟨k, lo, hi, hk1, hk2, rfl, rfl, rfl, hle, hb, hrel⟩ := hrel
      obtain rfl : k = 1 := by omega
      simp only [Nat.sub_self, Gm.tailing, Option.some.injEq, Prod.mk.injEq] at hrel
      obtain ⟨rfl, rfl⟩ := hrel
      clear hb hle
      go_wp2
      go_ret3
      exact ⟨rtup (by rw [HE.out (by omega)]; simp [reachV, Gm.tailing]; omega), rfl⟩

theorem lead_2 {x : Nat} (h1 : 0xC2 ≤ x) (h2 : x < 0xE0) : Gm.lead x = some (2, x % 32, 128) := by
  unfold Gm.lead
  repeat' split
  all_goals first | rfl | omega
set_option maxRecDepth 100000 in
set_option maxHeartbeats 1600000 in
theorem reach_2 (b : Gm.Bs) (bk off cap : Nat) (w : World) (hl : 1 ≤ b.length) (hl4 : b.length ≤ 4) (h : ∀ j, j < b.length → w.cell? ⟨bk, off + j, none⟩ = some (.int .u8 (b.getD j 0).toNat))
    (hx1 : 0xC2 ≤ (b.getD 0 0).toNat) (hx2 : (b.getD 0 0).toNat < 0xE0) :
    Calls Tryd.prog 49 #[.slice (some ⟨bk, off, none⟩) b.length cap] w fun e w' => e = .returned (reachV (Gm.reach b)) ∧ w = w' := by
  have h0 : w.cell? ⟨bk, off, none⟩ = some (.int .u8 (b.getD 0 0).toNat) := h 0 hl
  have HY := Lib.hid h
  clear h
  have hlead := lead_2 hx1 hx2
  have hov := fun h => reach_over b 2 _ 128 hl h hlead
  have hre := fun h => reach_of b 2 _ 128 hl h hlead
  have HO := Lib.hid hov
  have HE := Lib.hid hre
  clear hlead hov hre
  generalize (b.getD 0 0).toNat = x at h0 hx1 hx2 HO HE
  have e0 : ((b.length : Int) == 0) = false := by simp; intro h; simp [h] at hl
  have e1 : decide ((b.length : Int) > 4) = false := by simp; omega
  by_cases hW : 2 < b.length
  · first
    | (exfalso; omega)
    | (go_enter Tryd.func49, Tryd.ntmps49
       go_wp2
       go_ret3
       exact ⟨rtup (by rw [HO.out hW]; rfl), rfl⟩)
  · go_enter Tryd.func49, Tryd.ntmps49
    go_wp2
    go_loop [2, 3, 8] (fun lo hi i => ∃ k lo' hi' : Nat, 1 ≤ k ∧ k ≤ 2 ∧ i = .int .i64 k ∧ lo = .int .i32 lo' ∧ hi = .int .i32 hi' ∧ lo' ≤ hi' ∧ hi' < 32 * 64 ^ (k - 1) ∧ Gm.tailing (2 - k) (b.drop k) lo' hi' = Gm.tailing (2 - 1) (b.drop 1) (x % 32) (x % 32)) (fun _ _ i => 2 - (intOf i).toNat)
    case atStart => exact ⟨1, x % 32, x % 32, by omega, by omega, rfl, by first | rfl | go_num, by first | rfl | go_num, by omega, by simp; omega, rfl⟩
    case round =>
      obtain ⟨k, lo, hi, hk1, hk2, rfl, rfl, rfl, hle, hb, hrel⟩ := hrel
      have HREL := Lib.hid hrel
      have HB := Lib.hid hb
      clear hrel hb
      by_cases hlt : k < 2
      · have hb' : hi < 131072 := by
          have hb := HB.out
          have : k = 1 ∨ k = 2 ∨ k = 3 := by omega
          rcases this with rfl | rfl | rfl <;> omega
        have hlo' : lo < 131072 := by omega
        have hA := andNot_hi (h := hi) (by omega)
        have hpow : ∀ z, z < 64 → hi * 64 + z < 32 * 64 ^ (k + 1 - 1) := by
          intro z hz
          have hb := HB.out
          have e : 64 ^ (k + 1 - 1) = 64 ^ (k - 1) * 64 := by rw [← Nat.pow_succ]; congr 1; omega
          rw [e, ← Nat.mul_assoc]
          omega
        have HP := Lib.hid hpow
        clear hpow
        by_cases hin : k < b.length
        · have hc := HY.out k hin
          have hti := tailing_in 2 k b lo hi hlt hin
          have hyb : (b.getD k 0).toNat < 256 := UInt8.toNat_lt _
          generalize (b.getD k 0).toNat = y at hc hyb hti
          have HT := Lib.hid hti
          clear hti
          by_cases hy2 : y / 64 = 2
          · have g3 := top_no hyb hy2
            go_wp2
            go_round
            case rel =>
              exact ⟨k + 1, lo * 64 + y % 64, hi * 64 + y % 64, by omega, by omega, by go_num, by go_num, by go_num, by omega, HP.out _ (by omega), by rw [← HREL.out, HT.out, if_pos hy2]⟩
            case measure => simp [intOf]; omega
          · have g3 := top_yes hyb hy2
            go_wp2
            go_ret3
            exact ⟨rtup (by rw [HE.out (by omega), ← HREL.out, HT.out, if_neg hy2]; rfl), rfl⟩
        · have hto := tailing_out 2 k b lo hi hlt (by omega)
          have HT := Lib.hid hto
          clear hto
          go_wp2
          go_round
          case rel => exact ⟨k + 1, lo * 64, hi * 64 + 63, by omega, by omega, by go_num, by go_num, by go_num, by omega, HP.out _ (by omega), by rw [← HREL.out, HT.out]⟩
          case measure => simp [intOf]; omega
      · obtain rfl : k = 2 := by omega
        have hr := HREL.out
        simp only [Nat.sub_self, Gm.tailing] at hr
        have HR2 := Lib.hid hr
        clear hr
        go_wp2
        go_ret3
        exact ⟨rtup (by rw [HE.out (by omega), ← HR2.out]; simp [reachV]; omega), rfl⟩

theorem lead_3 {x : Nat} (h1 : 0xE0 ≤ x) (h2 : x < 0xF0) : Gm.lead x = some (3, x % 16, 2048) := by
  unfold Gm.lead
  repeat' split
  all_goals first | rfl | omega
set_option maxRecDepth 100000 in
set_option maxHeartbeats 1600000 in
theorem reach_3 (b : Gm.Bs) (bk off cap : Nat) (w : World) (hl : 1 ≤ b.length) (hl4 : b.length ≤ 4) (h : ∀ j, j < b.length → w.cell? ⟨bk, off + j, none⟩ = some (.int .u8 (b.getD j 0).toNat))
    (hx1 : 0xE0 ≤ (b.getD 0 0).toNat) (hx2 : (b.getD 0 0).toNat < 0xF0) :
    Calls Tryd.prog 49 #[.slice (some ⟨bk, off, none⟩) b.length cap] w fun e w' => e = .returned (reachV (Gm.reach b)) ∧ w = w' := by
  have h0 : w.cell? ⟨bk, off, none⟩ = some (.int .u8 (b.getD 0 0).toNat) := h 0 hl
  have HY := Lib.hid h
  clear h
  have hlead := lead_3 hx1 hx2
  have hov := fun h => reach_over b 3 _ 2048 hl h hlead
  have hre := fun h => reach_of b 3 _ 2048 hl h hlead
  have HO := Lib.hid hov
  have HE := Lib.hid hre
  clear hlead hov hre
  generalize (b.getD 0 0).toNat = x at h0 hx1 hx2 HO HE
  have e0 : ((b.length : Int) == 0) = false := by simp; intro h; simp [h] at hl
  have e1 : decide ((b.length : Int) > 4) = false := by simp; omega
  by_cases hW : 3 < b.length
  · first
    | (exfalso; omega)
    | (go_enter Tryd.func49, Tryd.ntmps49
       go_wp2
       go_ret3
       exact ⟨rtup (by rw [HO.out hW]; rfl), rfl⟩)
  · go_enter Tryd.func49, Tryd.ntmps49
    go_wp2
    go_loop [2, 3, 8] (fun lo hi i => ∃ k lo' hi' : Nat, 1 ≤ k ∧ k ≤ 3 ∧ i = .int .i64 k ∧ lo = .int .i32 lo' ∧ hi = .int .i32 hi' ∧ lo' ≤ hi' ∧ hi' < 32 * 64 ^ (k - 1) ∧ Gm.tailing (3 - k) (b.drop k) lo' hi' = Gm.tailing (3 - 1) (b.drop 1) (x % 16) (x % 16)) (fun _ _ i => 3 - (intOf i).toNat)
    case atStart => exact ⟨1, x % 16, x % 16, by omega, by omega, rfl, by first | rfl | go_num, by first | rfl | go_num, by omega, by simp; omega, rfl⟩
    case round =>
      obtain ⟨k, lo, hi, hk1, hk2, rfl, rfl, rfl, hle, hb, hrel⟩ := hrel
      have HREL := Lib.hid hrel
      have HB := Lib.hid hb
      clear hrel hb
      by_cases hlt : k < 3
      · have hb' : hi < 131072 := by
          have hb := HB.out
          have : k = 1 ∨ k = 2 ∨ k = 3 := by omega
          rcases this with rfl | rfl | rfl <;> omega
        have hlo' : lo < 131072 := by omega
        have hA := andNot_hi (h := hi) (by omega)
        have hpow : ∀ z, z < 64 → hi * 64 + z < 32 * 64 ^ (k + 1 - 1) := by
          intro z hz
          have hb := HB.out
          have e : 64 ^ (k + 1 - 1) = 64 ^ (k - 1) * 64 := by rw [← Nat.pow_succ]; congr 1; omega
          rw [e, ← Nat.mul_assoc]
          omega
        have HP := Lib.hid hpow
        clear hpow
        by_cases hin : k < b.length
        · have hc := HY.out k hin
          have hti := tailing_in 3 k b lo hi hlt hin
          have hyb : (b.getD k 0).toNat < 256 := UInt8.toNat_lt _
          generalize (b.getD k 0).toNat = y at hc hyb hti
          have HT := Lib.hid hti
          clear hti
          by_cases hy2 : y / 64 = 2
          · have g3 := top_no hyb hy2
            go_wp2
            go_round
            case rel =>
              exact ⟨k + 1, lo * 64 + y % 64, hi * 64 + y % 64, by omega, by omega, by go_num, by go_num, by go_num, by omega, HP.out _ (by omega), by rw [← HREL.out, HT.out, if_pos hy2]⟩
            case measure => simp [intOf]; omega
          · have g3 := top_yes hyb hy2
            go_wp2
            go_ret3
            exact ⟨rtup (by rw [HE.out (by omega), ← HREL.out, HT.out, if_neg hy2]; rfl), rfl⟩
        · have hto := tailing_out 3 k b lo hi hlt (by omega)
          have HT := Lib.hid hto
          clear hto
          go_wp2
          go_round
          case rel => exact ⟨k + 1, lo * 64, hi * 64 + 63, by omega, by omega, by go_num, by go_num, by go_num, by omega, HP.out _ (by omega), by rw [← HREL.out, HT.out]⟩
          case measure => simp [intOf]; omega
      · obtain rfl : k = 3 := by omega
        have hr := HREL.out
        simp only [Nat.sub_self, Gm.tailing] at hr
        have HR2 := Lib.hid hr
        clear hr
        go_wp2
        go_ret3
        exact ⟨rtup (by rw [HE.out (by omega), ← HR2.out]; simp [reachV]; omega), rfl⟩

theorem lead_4 {x : Nat} (h1 : 0xF0 ≤ x) (h2 : x < 0xF5) : Gm.lead x = some (4, x % 8, 65536) := by
  unfold Gm.lead
  repeat' split
  all_goals first | rfl | omega
set_option maxRecDepth 100000 in
set_option maxHeartbeats 1600000 in
theorem reach_4 (b : Gm.Bs) (bk off cap : Nat) (w : World) (hl : 1 ≤ b.length) (hl4 : b.length ≤ 4) (h : ∀ j, j < b.length → w.cell? ⟨bk, off + j, none⟩ = some (.int .u8 (b.getD j 0).toNat))
    (hx1 : 0xF0 ≤ (b.getD 0 0).toNat) (hx2 : (b.getD 0 0).toNat < 0xF5) :
    Calls Tryd.prog 49 #[.slice (some ⟨bk, off, none⟩) b.length cap] w fun e w' => e = .returned (reachV (Gm.reach b)) ∧ w = w' := by
  have h0 : w.cell? ⟨bk, off, none⟩ = some (.int .u8 (b.getD 0 0).toNat) := h 0 hl
  have HY := Lib.hid h
  clear h
  have hlead := lead_4 hx1 hx2
  have hov := fun h => reach_over b 4 _ 65536 hl h hlead
  have hre := fun h => reach_of b 4 _ 65536 hl h hlead
  have HO := Lib.hid hov
  have HE := Lib.hid hre
  clear hlead hov hre
  generalize (b.getD 0 0).toNat = x at h0 hx1 hx2 HO HE
  have e0 : ((b.length : Int) == 0) = false := by simp; intro h; simp [h] at hl
  have e1 : decide ((b.length : Int) > 4) = false := by simp; omega
  by_cases hW : 4 < b.length
  · first
    | (exfalso; omega)
    | (go_enter Tryd.func49, Tryd.ntmps49
       go_wp2
       go_ret3
       exact ⟨rtup (by rw [HO.out hW]; rfl), rfl⟩)
  · go_enter Tryd.func49, Tryd.ntmps49
    go_wp2
    go_loop [2, 3, 8] (fun lo hi i => ∃ k lo' hi' : Nat, 1 ≤ k ∧ k ≤ 4 ∧ i = .int .i64 k ∧ lo = .int .i32 lo' ∧ hi = .int .i32 hi' ∧ lo' ≤ hi' ∧ hi' < 32 * 64 ^ (k - 1) ∧ Gm.tailing (4 - k) (b.drop k) lo' hi' = Gm.tailing (4 - 1) (b.drop 1) (x % 8) (x % 8)) (fun _ _ i => 4 - (intOf i).toNat)
    case atStart => exact ⟨1, x % 8, x % 8, by omega, by omega, rfl, by first | rfl | go_num, by first | rfl | go_num, by omega, by simp; omega, rfl⟩
    case round =>
      obtain ⟨k, lo, hi, hk1, hk2, rfl, rfl, rfl, hle, hb, hrel⟩ := hrel
      have HREL := Lib.hid hrel
      have HB := Lib.hid hb
      clear hrel hb
      by_cases hlt : k < 4
      · have hb' : hi < 131072 := by
          have hb := HB.out
          have : k = 1 ∨ k = 2 ∨ k = 3 := by omega
          rcases this with rfl | rfl | rfl <;> omega
        have hlo' : lo < 131072 := by omega
        have hA := andNot_hi (h := hi) (by omega)
        have hpow : ∀ z, z < 64 → hi * 64 + z < 32 * 64 ^ (k + 1 - 1) := by
          intro z hz
          have hb := HB.out
          have e : 64 ^ (k + 1 - 1) = 64 ^ (k - 1) * 64 := by rw [← Nat.pow_succ]; congr 1; omega
          rw [e, ← Nat.mul_assoc]
          omega
        have HP := Lib.hid hpow
        clear hpow
        by_cases hin : k < b.length
        · have hc := HY.out k hin
          have hti := tailing_in 4 k b lo hi hlt hin
          have hyb : (b.getD k 0).toNat < 256 := UInt8.toNat_lt _
          generalize (b.getD k 0).toNat = y at hc hyb hti
          have HT := Lib.hid hti
          clear hti
          by_cases hy2 : y / 64 = 2
          · have g3 := top_no hyb hy2
            go_wp2
            go_round
            case rel =>
              exact ⟨k + 1, lo * 64 + y % 64, hi * 64 + y % 64, by omega, by omega, by go_num, by go_num, by go_num, by omega, HP.out _ (by omega), by rw [← HREL.out, HT.out, if_pos hy2]⟩
            case measure => simp [intOf]; omega
          · have g3 := top_yes hyb hy2
            go_wp2
            go_ret3
            exact ⟨rtup (by rw [HE.out (by omega), ← HREL.out, HT.out, if_neg hy2]; rfl), rfl⟩
        · have hto := tailing_out 4 k b lo hi hlt (by omega)
          have HT := Lib.hid hto
          clear hto
          go_wp2
          go_round
          case rel => exact ⟨k + 1, lo * 64, hi * 64 + 63, by omega, by omega, by go_num, by go_num, by go_num, by omega, HP.out _ (by omega), by rw [← HREL.out, HT.out]⟩
          case measure => simp [intOf]; omega
      · obtain rfl : k = 4 := by omega
        have hr := HREL.out
        simp only [Nat.sub_self, Gm.tailing] at hr
        have HR2 := Lib.hid hr
        clear hr
        go_wp2
        go_ret3
        exact ⟨rtup (by rw [HE.out (by omega), ← HR2.out]; simp [reachV]; omega), rfl⟩

set_option maxRecDepth 100000 in
set_option maxHeartbeats 1600000 in
theorem reach_none (b : Gm.Bs) (bk off cap : Nat) (w : World) (hl : 1 ≤ b.length) (hl4 : b.length ≤ 4) (h : ∀ j, j < b.length → w.cell? ⟨bk, off + j, none⟩ = some (.int .u8 (b.getD j 0).toNat))
    (hx1 : 0x80 ≤ (b.getD 0 0).toNat) (hx2 : (b.getD 0 0).toNat < 0xC2 ∨ 0xF4 < (b.getD 0 0).toNat) :
    Calls Tryd.prog 49 #[.slice (some ⟨bk, off, none⟩) b.length cap] w fun e w' => e = .returned (reachV (Gm.reach b)) ∧ w = w' := by
  have h0 : w.cell? ⟨bk, off, none⟩ = some (.int .u8 (b.getD 0 0).toNat) := h 0 hl
  have hx : (b.getD 0 0).toNat < 256 := UInt8.toNat_lt _
  have hre := reach_bad b hl
  clear h
  generalize (b.getD 0 0).toNat = x at h0 hx1 hx2 hre hx
  have hlead : Gm.lead x = none := by unfold Gm.lead; rw [if_neg (by omega), if_pos hx2]
  have HE := Lib.hid (hre hlead)
  clear hre hlead
  have e0 : ((b.length : Int) == 0) = false := by simp; intro h; simp [h] at hl
  have e1 : decide ((b.length : Int) > 4) = false := by simp; omega
  rcases hx2 with hx2 | hx2
  · go_enter Tryd.func49, Tryd.ntmps49
    go_wp2
    go_ret3
    exact ⟨rtup (by rw [HE.out]; rfl), rfl⟩
  · go_enter Tryd.func49, Tryd.ntmps49
    go_wp2
    go_ret3
    exact ⟨rtup (by rw [HE.out]; rfl), rfl⟩

set_option maxRecDepth 100000 in
set_option maxHeartbeats 1600000 in
theorem reach_nil (b : Gm.Bs) (ao : Option Addr) (cap : Nat) (w : World) (hl : b.length = 0 ∨ 4 < b.length) (hm : b.length ≤ 9223372036854775807) :
    Calls Tryd.prog 49 #[.slice ao b.length cap] w fun e w' => e = .returned (reachV (Gm.reach b)) ∧ w = w' := by
  have hn : Gm.reach b = none := by
    rcases hl with hl | hl
    · rw [List.length_eq_zero_iff.1 hl]; rfl
    · cases hlead : Gm.lead (b.getD 0 0).toNat with
      | none => exact reach_bad b (by omega) hlead
      | some q => obtain ⟨W, L, least⟩ := q; exact reach_over b W L least (by omega) (by have := Gm.lead_le hlead; omega) hlead
  rw [hn]
  generalize b.length = n at hl hm
  rcases hl with rfl | hl
  · go_enter Tryd.func49, Tryd.ntmps49
    go_wp2
    go_ret3
    exact ⟨rfl, rfl⟩
  · have e0 : ((n : Int) == 0) = false := by simp; omega
    have e1 : decide ((n : Int) > 4) = true := by simp; omega
    go_enter Tryd.func49, Tryd.ntmps49
    go_wp2
    go_ret3
    exact ⟨rfl, rfl⟩

theorem reach_any (b : Gm.Bs) (ao : Option Addr) (cap : Nat) (w : World) (h : BAt w ao b) (hm : b.length ≤ 9223372036854775807) :
    Calls Tryd.prog 49 #[.slice ao b.length cap] w fun e w' => e = .returned (reachV (Gm.reach b)) ∧ w = w' := by
  by_cases hl : b.length = 0 ∨ 4 < b.length
  · exact reach_nil b ao cap w hl hm
  · rcases h with h | ⟨bk, off, rfl, h⟩
    · rw [h] at hl; simp at hl
    · have hx : (b.getD 0 0).toNat < 256 := UInt8.toNat_lt _
      by_cases c1 : (b.getD 0 0).toNat < 0x80
      · exact reach_1 b bk off cap w (by omega) (by omega) h (by omega) (by omega)
      · by_cases c2 : (b.getD 0 0).toNat < 0xC2 ∨ 0xF4 < (b.getD 0 0).toNat
        · exact reach_none b bk off cap w (by omega) (by omega) h (by omega) c2
        · by_cases c3 : (b.getD 0 0).toNat < 0xE0
          · exact reach_2 b bk off cap w (by omega) (by omega) h (by omega) (by omega)
          · by_cases c4 : (b.getD 0 0).toNat < 0xF0
            · exact reach_3 b bk off cap w (by omega) (by omega) h (by omega) (by omega)
            · exact reach_4 b bk off cap w (by omega) (by omega) h (by omega) (by omega)
end Go.Proofs.YtghhakilkmbpdaaDoor
