/- Walks: MendLeast. -/
import Derived.Test.YtghhakilkmbpdaaDoorWAwake
namespace Gm
theorem lexLE_at : ∀ (p : Bs) (a x : UInt8) (u v : Bs), lexLE (p ++ a :: u) (p ++ x :: v) → a ≤ x
  | [], a, x, u, v, h => by
    rcases h with h | ⟨rfl, _⟩
    · exact UInt8.le_of_lt h
    · exact UInt8.le_refl _
  | y :: p, a, x, u, v, h => by
    rcases h with h | ⟨_, h⟩
    · exact absurd h (UInt8.lt_irrefl _)
    · exact lexLE_at p a x u v h

/-- a lesser byte at one place costs length -/
theorem lesser_longer {b : Bs} {s s' : K} (h : K.init.run b = some s) {i : Nat} (hi : i < s.rest.length) {x : UInt8} (hx : x < s.rest.getD i 0) (h' : K.init.run (b ++ (s.rest.take i ++ [x])) = some s') : s.rest.length < i + 1 + s'.rest.length := by
  have hd := rest_makes h'
  rw [List.append_assoc] at hd
  have hs := rest_least h hd
  have hr : s.rest = s.rest.take i ++ s.rest.getD i 0 :: s.rest.drop (i + 1) := by
    have := List.take_append_drop i s.rest
    rw [List.drop_eq_getElem_cons hi] at this
    simp [List.getD, hi]
  rcases hs with h1 | ⟨_, h2⟩
  · simp at h1
    omega
  · have key : lexLE (s.rest.take i ++ s.rest.getD i 0 :: s.rest.drop (i + 1)) (s.rest.take i ++ x :: s'.rest) := by
      rw [← hr]
      simpa using h2
    exact absurd hx (UInt8.not_lt.2 (lexLE_at _ _ _ _ _ key))
end Gm
namespace Go.Proofs.YtghhakilkmbpdaaDoor
open Go Go.RowKit

theorem lit_cells (W : World) (y : UInt8) (j : Nat) (hj : j < 15) : ∃ x : UInt8, (W.alloc (.cells #[.int .u8 (((y.toNat : Int) - 1) % 256), .int .u8 32, .int .u8 33, .int .u8 34, .int .u8 39, .int .u8 45, .int .u8 47, .int .u8 48, .int .u8 62, .int .u8 57, .int .u8 59, .int .u8 65, .int .u8 93, .int .u8 97, .int .u8 128] 5)).cell? ⟨W.heap.size, j, none⟩ = some (.int .u8 x.toNat) := by
  rw [at_alloc]
  have h : j = 0 ∨ j = 1 ∨ j = 2 ∨ j = 3 ∨ j = 4 ∨ j = 5 ∨ j = 6 ∨ j = 7 ∨ j = 8 ∨ j = 9 ∨ j = 10 ∨ j = 11 ∨ j = 12 ∨ j = 13 ∨ j = 14 := by omega
  rcases h with rfl | rfl | rfl | rfl | rfl | rfl | rfl | rfl | rfl | rfl | rfl | rfl | rfl | rfl | rfl
  · refine ⟨UInt8.ofNat ((((y.toNat : Int) - 1) % 256).toNat), ?_⟩
    have e : ((UInt8.ofNat ((((y.toNat : Int) - 1) % 256).toNat)).toNat : Int) = ((y.toNat : Int) - 1) % 256 := by
      simp
      omega
    rw [e]
    rfl
  · exact ⟨32, rfl⟩
  · exact ⟨33, rfl⟩
  · exact ⟨34, rfl⟩
  · exact ⟨39, rfl⟩
  · exact ⟨45, rfl⟩
  · exact ⟨47, rfl⟩
  · exact ⟨48, rfl⟩
  · exact ⟨62, rfl⟩
  · exact ⟨57, rfl⟩
  · exact ⟨59, rfl⟩
  · exact ⟨65, rfl⟩
  · exact ⟨93, rfl⟩
  · exact ⟨97, rfl⟩
  · exact ⟨128, rfl⟩

theorem In.take {w : World} {g cap : Nat} {r : Gm.Bs} (h : In w (some ⟨g, 0, none⟩) cap r) (i : Nat) : In w (some ⟨g, 0, none⟩) cap (r.take i) := by
  have h1 := h.le
  have h2 := h.small
  refine ⟨?_, h.low, by simp; omega, by simp; omega, h.cap⟩
  rcases h.at_ with rfl | ⟨bk, off, e, hc⟩
  · exact .inl (by simp)
  · refine .inr ⟨bk, off, e, fun j hj => ?_⟩
    have hj' : j < i ∧ j < r.length := by simp at hj; omega
    rw [hc j hj'.2]
    simp [List.getD, List.getElem?_take_of_lt hj'.1]
theorem In.drop {w : World} {g cap : Nat} {r : Gm.Bs} (h : In w (some ⟨g, 0, none⟩) cap r) (i : Nat) (hi : i ≤ r.length) (hne : r ≠ []) : In w (some ⟨g, i, none⟩) (cap - i) (r.drop i) := by
  have h1 := h.le
  have h2 := h.small
  have h3 := h.cap
  refine ⟨?_, fun a ha => by cases ha; exact h.low ⟨g, 0, none⟩ rfl, by simp; omega, by simp; omega, by omega⟩
  rcases h.at_ with e | ⟨bk, off, e, hc⟩
  · exact absurd e hne
  · cases e
    refine .inr ⟨g, i, rfl, fun j hj => ?_⟩
    have hj' : i + j < r.length := by simp at hj; omega
    have := hc (i + j) hj'
    rw [Nat.zero_add] at this
    rw [this]
    simp [List.getD]
theorem In.nil {w : World} {g cap : Nat} {r : Gm.Bs} (h : In w (some ⟨g, 0, none⟩) cap r) : In w (some ⟨g, 0, none⟩) 0 [] := ⟨.inl rfl, h.low, by simp, by simp, by omega⟩

set_option maxRecDepth 100000 in
set_option maxHeartbeats 4000000 in
theorem least_any {B : Nat} {w : World} (h : Env B w) {ao to_ : Option Addr} {ca ct : Nat} {b t : Gm.Bs} (hb : In w ao ca b) (ht : In w to_ ct t) (hl : b.length + t.length ≤ 1048576) (k : Int) (hk : -9223372036854775808 ≤ k ∧ k ≤ 9223372036854775807) :
    Calls Tryd.prog 3 #[.slice ao b.length ca, .slice to_ t.length ct, .int .i64 k] w fun e w' => e = .returned (.bool true) ∧ Fr S0 w w' := by
  have hbt : (b ++ t).length ≤ 4194304 := by simp; omega
  have HE := Lib.hid h
  have HB := Lib.hid hb
  have HT := Lib.hid ht
  have HBT := Lib.hid hbt
  clear h hb ht hbt
  go_enter Tryd.func3, Tryd.ntmps3
  go_wp2_with fail
  refine (awake_any HE.out).mono ?_
  rintro e w1 ⟨rfl, hf1⟩
  have HF1 := Lib.hid hf1
  clear hf1
  go_wp2_with fail
  refine (Rest_n (HE.out.fr0 HF1.out) (HB.out.fr HF1.out) rfl).mono ?_
  rintro e w2 (⟨s, g, cap, hr, rfl, hl2, hc2, hg2, hgs2, hb2, hf2⟩ | ⟨n2, s2, x2, a2, hn, ha2, hx2, hs2, rfl, hga, hcell, hf2⟩)
  · have HR := Lib.hid hr
    have HF2 := Lib.hid (HF1.out.trans hf2)
    have hrl := Gm.rest_len hr
    have hsm : s.rest.length ≤ 4194304 := by omega
    have hin : In w2 (some ⟨g, 0, none⟩) cap s.rest := ⟨hb2, fun a ha => by cases ha; exact hgs2, hl2, hsm, hc2⟩
    have HIN := Lib.hid hin
    have HRL := Lib.hid hrl
    clear hr hf2 hb2 hin hrl hg2 hgs2
    obtain ⟨r, hrr⟩ : ∃ r, s.rest = r := ⟨_, rfl⟩
    rw [hrr] at hl2 hsm HIN HRL ⊢
    have HRR := Lib.hid hrr
    clear hrr
    go_wp2_with fail
    refine (held_any (HE.out.fr0 HF2.out) (HB.out.fr HF2.out) HIN.out (HT.out.fr HF2.out) HBT.out (by rw [← HRR.out]; exact held_rest HR.out t)).mono ?_
    rintro e w3 ⟨rfl, hf3⟩
    have HF3 := Lib.hid (HF2.out.trans hf3)
    have HIN3 := Lib.hid (HIN.out.fr hf3)
    clear hf3
    go_wp2_with fail
    go_loopg [9] r.length (fun m iv wr => ∃ i : Nat, i ≤ r.length ∧ m = r.length - i ∧ iv = .int .i64 i ∧ Fr S0 w3 wr)
    case atStart => exact ⟨0, Nat.zero_le _, rfl, rfl, Fr.refl _ _⟩
    case round =>
      obtain ⟨i, hi, hm, rfl, hf⟩ := hrel
      have HM := Lib.hid hm
      have HF := Lib.hid hf
      have HI3 := Lib.hid (HIN3.out.fr hf)
      clear hm hf
      by_cases hend : i < r.length
      · obtain ⟨bk, off, hge, hbyte⟩ : ∃ bk off, (some ⟨g, 0, none⟩ : Option Addr) = some ⟨bk, off, none⟩ ∧ ∀ j, j < r.length → wr.cell? ⟨bk, off + j, none⟩ = some (.int .u8 (r.getD j 0).toNat) := by
          rcases HI3.out.at_ with e | h
          · rw [e] at hend; simp at hend
          · exact h
        cases hge
        have hci := hbyte i hend
        simp only [Nat.zero_add] at hci
        have hlen0 : ¬ ((r.length : Int) = 0) := by omega
        clear hbyte
        obtain ⟨y, hy⟩ : ∃ y, r.getD i 0 = y := ⟨_, rfl⟩
        rw [hy] at hci
        have HY := Lib.hid hy
        clear hy
        have gcase : (decide ((r.length : Int) > 60) = true ∧ decide (60 < r.length) = true ∧ ((i : Int) != (wrap64 (k.tmod (r.length : Int) + (r.length : Int))).tmod (r.length : Int)) = true) ∨
            ((decide ((r.length : Int) > 60) = true ∧ decide (60 < r.length) = true ∧ ((i : Int) != (wrap64 (k.tmod (r.length : Int) + (r.length : Int))).tmod (r.length : Int)) = false) ∨ (decide ((r.length : Int) > 60) = false ∧ decide (60 < r.length) = false ∧ True)) := by
          by_cases h60 : 60 < r.length
          · have h1 : decide ((r.length : Int) > 60) = true := by rw [decide_eq_true_iff]; omega
            have h2 : decide (60 < r.length) = true := by simpa using h60
            cases hq : ((i : Int) != (wrap64 (k.tmod (r.length : Int) + (r.length : Int))).tmod (r.length : Int)) with
            | true => exact .inl ⟨h1, h2, rfl⟩
            | false => exact .inr (.inl ⟨h1, h2, rfl⟩)
          · exact .inr (.inr ⟨by rw [decide_eq_false_iff_not]; omega, by simpa using h60, trivial⟩)
        rcases gcase with ⟨g60, g60', gq⟩ | hgc
        · go_wp2_with fail
          go_roundg (r.length - (i + 1))
          case measure => rw [HM.out]; omega
          case rel => exact ⟨i + 1, by omega, rfl, by go_num, HF.out⟩
        rcases hgc with ⟨g60, g60', gq⟩ | ⟨g60, g60', gq⟩
        all_goals
          go_wp2_with fail
          refine wp_gen (fun W => Fr S0 w3 W ∧ wr.heap.size < W.heap.size ∧ ∀ j, j < 15 → ∃ x : UInt8, W.cell? ⟨wr.heap.size, j, none⟩ = some (.int .u8 x.toNat)) ⟨HF.out.trans (Fr.alloc _ _ _), by simp, fun j hj => lit_cells wr y j hj⟩ ?_
          rintro W1 ⟨hfW, hszW, hcells⟩
          have HFW := Lib.hid hfW
          have HCS := Lib.hid hcells
          have HIW := Lib.hid (HIN3.out.fr hfW)
          clear hfW hcells
          have hLB : wr.heap.size < W1.heap.size := hszW
          generalize wr.heap.size = LB at HCS hLB ⊢
          clear hszW
          go_loopg [64] 15 (fun m jv wq => ∃ j : Nat, j ≤ 15 ∧ m = 15 - j ∧ jv = .int .i64 j ∧ Fr S0 W1 wq)
          case atStart => exact ⟨0, by omega, rfl, rfl, Fr.refl _ _⟩
          case round =>
            obtain ⟨j, hj, hmj, rfl, hfj⟩ := hrel
            rename World => V
            have HMJ := Lib.hid hmj
            have HFJ := Lib.hid (HFW.out.trans hfj)
            have HFJ1 := Lib.hid hfj
            have HIV := Lib.hid (HIW.out.fr hfj)
            have hgV : V.cell? ⟨g, i, none⟩ = some (.int .u8 y.toNat) := by
              rcases HIV.out.at_ with e | ⟨bk, off, e, hc⟩
              · rw [e] at hend; simp at hend
              · cases e
                have := hc i hend
                rw [Nat.zero_add, HY.out] at this
                exact this
            by_cases hjl : j < 15
            · obtain ⟨x, hx⟩ := HCS.out j hjl
              have hxV : V.cell? ⟨LB, j, none⟩ = some (.int .u8 x.toNat) := by
                rw [hfj.cell (p := ⟨LB, j, none⟩) hLB (fun h => h)]
                exact hx
              clear hmj hfj hx
              by_cases hxy : x < y
              · have gxy : decide ((x.toNat : Int) ≥ (y.toNat : Int)) = false := by
                  rw [decide_eq_false_iff_not]
                  have := UInt8.lt_iff_toNat_lt.1 hxy
                  omega
                have gxy' : decide (y.toNat ≤ x.toNat) = false := by
                  rw [decide_eq_false_iff_not]
                  have := UInt8.lt_iff_toNat_lt.1 hxy
                  omega
                have HXY := Lib.hid hxy
                have hix : In (V.alloc (.cells #[.int .u8 x.toNat] 5)) (some ⟨V.heap.size, 0, none⟩) 1 [x] := const_in V [x] (0, 0) (by simp)
                have HIX := Lib.hid hix
                have HTK := Lib.hid (HIV.out.fr (Fr.alloc S0 V (.cells #[.int .u8 x.toNat] 5)))
                clear hxy hix
                go_wp2_with fail
                refine (joined_n (HTK.out.take i) HIX.out (by simp; omega) rfl (by simp; omega)).mono ?_
                rintro e v1 ⟨g3, c3, rfl, hge3, hin3, hf3⟩
                have HG3 := Lib.hid ((Fr.alloc S0 V (.cells #[.int .u8 x.toNat] 5)).trans hf3)
                have HF3' := Lib.hid (HFJ.out.trans HG3.out)
                have HI3' := Lib.hid hin3
                clear hin3 hf3 hgV hxV
                go_wp2_with fail
                refine (joined_n (HB.out.fr (HF3.out.trans HF3'.out)) HI3'.out rfl (by simp; omega) (by simp; have := HRL.out; omega)).mono ?_
                rintro e v2 ⟨g4, c4, rfl, hge4, hin4, hf4⟩
                have HG4 := Lib.hid (HG3.out.trans hf4)
                have HF4' := Lib.hid (HF3'.out.trans hf4)
                have HI4' := Lib.hid hin4
                clear hin4 hf4
                go_wp2_with fail
                refine (Rest_n (HE.out.fr0 (HF3.out.trans HF4'.out)) HI4'.out (by simp; omega)).mono ?_
                rintro e v3 (⟨s5, g5, c5, hr5, rfl, hl5, hc5, hg5, hgs5, hb5, hf5⟩ | ⟨n5, s5, x5, a5, hn5, ha5, hx5, hs5, rfl, hga5, hcell5, hf5⟩)
                · have hless : r.length < i + 1 + s5.rest.length := by
                    have := Gm.lesser_longer HR.out (i := i) (x := x) (s' := s5) (by rw [HRR.out]; exact hend) (by rw [HRR.out, HY.out]; exact HXY.out) (by rw [HRR.out]; exact hr5)
                    rw [HRR.out] at this
                    exact this
                  have hs5l := Gm.rest_len hr5
                  have hs5l' : s5.rest.length ≤ 100000000 := by
                    have := HRL.out
                    simp at hs5l
                    omega
                  have HFV := Lib.hid ((HFJ1.out.trans HG4.out).trans hf5)
                  clear hs5l hr5 hb5 hf5 gxy gxy'
                  generalize s5.rest.length = L5 at *
                  have gl1 : decide ((i : Int) + 1 + (L5 : Int) ≤ (r.length : Int)) = false := by rw [decide_eq_false_iff_not]; omega
                  have gl2 : decide (i + 1 + L5 ≤ r.length) = false := by rw [decide_eq_false_iff_not]; omega
                  go_wp2_with fail
                  go_roundg (15 - (j + 1))
                  case measure => rw [HMJ.out]; omega
                  case rel => exact ⟨j + 1, by omega, rfl, by go_num, HFV.out⟩
                · have HFV := Lib.hid ((HFJ1.out.trans HG4.out).trans hf5)
                  clear hf5 hn5 ha5 hx5 hs5 hcell5 gxy gxy'
                  go_wp2_with fail
                  go_roundg (15 - (j + 1))
                  case measure => rw [HMJ.out]; omega
                  case rel => exact ⟨j + 1, by omega, rfl, by go_num, HFV.out⟩
              · have gxy : decide ((x.toNat : Int) ≥ (y.toNat : Int)) = true := by
                  rw [decide_eq_true_iff]
                  have : ¬ x.toNat < y.toNat := fun h => hxy (UInt8.lt_iff_toNat_lt.2 h)
                  omega
                have gxy' : decide (y.toNat ≤ x.toNat) = true := by
                  rw [decide_eq_true_iff]
                  have : ¬ x.toNat < y.toNat := fun h => hxy (UInt8.lt_iff_toNat_lt.2 h)
                  omega
                clear hxy
                go_wp2_with fail
                go_roundg (15 - (j + 1))
                case measure => rw [HMJ.out]; omega
                case rel => exact ⟨j + 1, by omega, rfl, by go_num, HFJ1.out⟩
            · obtain rfl : j = 15 := by omega
              clear hmj hfj hgV
              have hokh : heldOk b r (r.take i ++ r.drop (i + 1)) := by rw [← HRR.out]; exact held_rest HR.out _
              have hbl : (b ++ (r.take i ++ r.drop (i + 1))).length ≤ 4194304 := by simp; have := HRL.out; omega
              have htl : (r.take i ++ r.drop (i + 1)).length = i + (r.length - (i + 1)) := by simp; omega
              have hne : r ≠ [] := by rintro rfl; simp at hend
              have HOKH := Lib.hid hokh
              have HBL := Lib.hid hbl
              have HTL := Lib.hid htl
              clear hokh hbl htl
              by_cases hcap : cap = i + 1
              · obtain rfl : cap = i + 1 := hcap
                have hdr : r.drop (i + 1) = [] := List.drop_of_length_le (by omega)
                have hrl1 : r.length - (i + 1) = 0 := by omega
                have HOK2 := Lib.hid (by have := HOKH.out; rwa [hdr] at this : heldOk b r (r.take i ++ []))
                have HBL2 := Lib.hid (by have := HBL.out; rwa [hdr] at this : (b ++ (r.take i ++ [])).length ≤ 4194304)
                have HRL1 := Lib.hid hrl1
                have hle1 : r.length ≤ i + 1 := by omega
                have hge1 : i + 1 ≤ r.length := by omega
                have hwr : IntKind.i64.wrap ((i : Int) + 1) = (i : Int) + 1 := IntWalk.i64_in _ (by omega)
                have hb1 : (i : Int) + 1 ≤ (r.length : Int) := by omega
                have hb2 : 0 ≤ (i : Int) + 1 := by omega
                have hto : ((i : Int) + 1).toNat = i + 1 := by omega
                clear hdr
                go_wp2_with fail
                go_region_with (first | (go_at_call 7; refine (joined_n ((HIV.out.fr (Fr.drew _ _)).take i) (HIV.out.fr (Fr.drew _ _)).nil (by simp; omega) rfl (by simp; omega)).mono ?_; rintro e v1 ⟨g6, c6, rfl, hge6, hin6, hf6⟩) | (go_at_call 8; refine (held_n (HE.out.fr0 (HF3.out.trans (HFJ.out.trans ((Fr.drew _ _).trans hf6)))) (HB.out.fr (HF3.out.trans (HFJ.out.trans ((Fr.drew _ _).trans hf6)))) (HIV.out.fr ((Fr.drew _ _).trans hf6)) hin6 (by simp; omega) HBL2.out HOK2.out).mono ?_; rintro e v2 ⟨rfl, hf7⟩))
                go_wp2_with fail
                go_roundg (r.length - (i + 1))
                case measure => rw [HM.out]; omega
                case rel => exact ⟨i + 1, by omega, rfl, by go_num, HFJ.out.trans ((Fr.drew _ _).trans (hf6.trans hf7))⟩
              · have HNE := Lib.hid hne
                clear hne
                have hcap2 : i + 1 < cap := by omega
                have hcap3 : ¬ (cap - (i + 1) = 0) := by omega
                have hwr : IntKind.i64.wrap ((i : Int) + 1) = (i : Int) + 1 := IntWalk.i64_in _ (by omega)
                have hb1 : (i : Int) + 1 ≤ (r.length : Int) := by omega
                have hb2 : 0 ≤ (i : Int) + 1 := by omega
                have hto : ((i : Int) + 1).toNat = i + 1 := by omega
                clear hcap
                go_wp2_with fail
                go_region_with (first | (go_at_call 7; refine (joined_n ((HIV.out.fr (Fr.drew _ _)).take i) ((HIV.out.fr (Fr.drew _ _)).drop (i + 1) (by omega) HNE.out) (by simp; omega) (by simp) (by rw [HTL.out]; omega)).mono ?_; rintro e v1 ⟨g6, c6, rfl, hge6, hin6, hf6⟩) | (go_at_call 8; refine (held_n (HE.out.fr0 (HF3.out.trans (HFJ.out.trans ((Fr.drew _ _).trans hf6)))) (HB.out.fr (HF3.out.trans (HFJ.out.trans ((Fr.drew _ _).trans hf6)))) (HIV.out.fr ((Fr.drew _ _).trans hf6)) hin6 HTL.out HBL.out HOKH.out).mono ?_; rintro e v2 ⟨rfl, hf7⟩))
                go_wp2_with fail
                go_roundg (r.length - (i + 1))
                case measure => rw [HM.out]; omega
                case rel => exact ⟨i + 1, by omega, rfl, by go_num, HFJ.out.trans ((Fr.drew _ _).trans (hf6.trans hf7))⟩
      · obtain rfl : i = r.length := by omega
        go_wp2_with fail
        go_ret
        exact ⟨rfl, HF3.out.trans HF.out⟩
  · have hno : isDoc (b ++ t) = false := by
      cases hd : isDoc (b ++ t) with
      | false => rfl
      | true => exact absurd ((isDoc_iff _).1 hd) (Gm.wrong_none hn t)
    have HNO := Lib.hid hno
    have HF2 := Lib.hid (HF1.out.trans hf2)
    clear hno hf2 hn ha2 hx2 hs2 hcell hga
    go_wp2_with fail
    refine (joined_any (HB.out.fr HF2.out) (HT.out.fr HF2.out) HBT.out).mono ?_
    rintro e w3 ⟨g, cap, rfl, hge, hin, hf3⟩
    have HI3 := Lib.hid hin
    have HF3 := Lib.hid (HF2.out.trans hf3)
    clear hin hf3
    go_wp2_with fail
    refine (Document_n (HE.out.fr0 HF3.out) HI3.out (by simp)).mono ?_
    rintro e w4 ⟨rfl, hf4⟩
    rw [HNO.out]
    have HF4 := Lib.hid (HF3.out.trans hf4)
    clear hf4
    go_wp2_with fail
    go_ret
    exact ⟨rfl, HF4.out⟩
end Go.Proofs.YtghhakilkmbpdaaDoor
