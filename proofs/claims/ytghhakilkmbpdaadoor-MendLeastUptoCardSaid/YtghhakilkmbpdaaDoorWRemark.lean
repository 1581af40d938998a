/- Walks: reader.remark. -/
import Derived.Test.YtghhakilkmbpdaaDoorWAttr
namespace Gm
theorem bang_step (s : K) (hp : s.pend = []) (x : UInt8) : ({ s with st := .bang } : K).step x = if x = 45 then some { s with st := .dash } else if x = 91 ∧ s.opn ≠ [] then some { s with st := .literal 1 } else none := by
  by_cases hx : x.toNat < 128
  · rw [step_ascii (s := { s with st := .bang }) (by simp) hp hx]
    rfl
  · rw [step_pend (s := { s with st := .bang }) (by simp) (by simp [hx])]
    have h1 : ¬ x = 45 := by rintro rfl; simp at hx
    have h2 : ¬ (x = 91 ∧ s.opn ≠ []) := by rintro ⟨rfl, _⟩; simp at hx
    simp only [K.cls]
    rw [if_neg h1, if_neg h2]
theorem dash_step (s : K) (hp : s.pend = []) (x : UInt8) : ({ s with st := .dash } : K).step x = if x = 45 then some { s with st := .comment 0 } else none := by
  by_cases hx : x.toNat < 128
  · rw [step_ascii (s := { s with st := .dash }) (by simp) hp hx]
    rfl
  · rw [step_pend (s := { s with st := .dash }) (by simp) (by simp [hx])]
    have h1 : ¬ x = 45 := by rintro rfl; simp at hx
    simp only [K.cls]
    rw [if_neg h1]
theorem literal_step (s : K) (hp : s.pend = []) (k : Nat) (hk : k < 7) (x : UInt8) : ({ s with st := .literal k } : K).step x =
    if x = cdata.getD k 0 then (if k = 6 then some { s with st := .section_ 0 } else some { s with st := .literal (k + 1) }) else none := by
  have hc : ∀ x : UInt8, cdata[k]? = some x ↔ x = cdata.getD k 0 := by
    intro x
    have : cdata[k]? = some (cdata.getD k 0) := by
      match k, hk with
      | 0, _ | 1, _ | 2, _ | 3, _ | 4, _ | 5, _ | 6, _ => rfl
    rw [this]
    simp [eq_comm]
  have hlow : (cdata.getD k 0).toNat < 128 := by
    match k, hk with
    | 0, _ | 1, _ | 2, _ | 3, _ | 4, _ | 5, _ | 6, _ => decide
  by_cases hx : x.toNat < 128
  · rw [step_ascii (s := { s with st := .literal k }) (by simp) hp hx]
    simp only [K.ascii, hc]
  · rw [step_pend (s := { s with st := .literal k }) (by simp) (by simp [hx])]
    have h1 : ¬ x = cdata.getD k 0 := by rintro rfl; exact hx hlow
    simp only [K.cls]
    rw [if_neg h1]
theorem bang_rest (s : K) : ({ s with st := .bang } : K).rest = [45, 45, 45, 45, 62] ++ closing s.opn ++ rl s.root := by
  rw [rest_eq _ (by simp)]
  simp [K.within, K.left]
theorem dash_rest (s : K) : ({ s with st := .dash } : K).rest = [45, 45, 45, 62] ++ closing s.opn ++ rl s.root := by
  rw [rest_eq _ (by simp)]
  simp [K.within, K.left]
theorem literal_rest (s : K) (k : Nat) : ({ s with st := .literal k } : K).rest = cdata.drop k ++ [93, 93, 62] ++ closing s.opn ++ rl s.root := by
  rw [rest_eq _ (by simp)]
  simp [K.within, K.left]
end Gm
namespace Go.Proofs.YtghhakilkmbpdaaDoor
open Go Go.RowKit

/-- a byte that must stand there: from one state of the machine to the next -/
theorem must_at {B : Nat} {w : World} {p : Nat} {r : R} (h : Rd B w p r) {s s' : Gm.K} (hat : AtK r.b r.at_ s) (c : UInt8) (rest : Gm.Bs) (hrest : rest.length ≤ 1099511627776)
    (h1 : s.rest = rest ++ Gm.closing r.o ++ Gm.rl r.root) (h2 : ∀ x, r.b[r.at_]? = some x → s.step x = if x = c then some s' else none) :
    Calls Tryd.prog 32 #[.pointer (some ⟨p, 0, none⟩), .int .u8 c.toNat, .string ⟨rest.toArray⟩] w fun e w' =>
      (e = .returned (.tuple #[]) ∧ r.at_ < r.b.length ∧ AtK r.b (r.at_ + 1) s' ∧ Rd B w' p { r with at_ := r.at_ + 1 } ∧ Fr (only p) w w') ∨ (Halts r.b e ∧ Fr (only p) w w') := by
  by_cases he : r.at_ = r.b.length
  · exact (must_end h c rest hrest he).mono fun e w' ⟨h3, h4⟩ => .inr ⟨by rw [h3]; exact hat.ends he h1, h4.of0⟩
  · have hlt : r.at_ < r.b.length := by have := h.at_le; omega
    have hg := getD_some hlt
    by_cases hc : r.b.getD r.at_ 0 = c
    · refine (must_ok h c rest hlt hc).mono fun e w' ⟨h3, h4, h5⟩ => .inl ⟨h3, hlt, hat.step hg ((h2 _ hg).trans (if_pos hc)), h4, h5⟩
    · exact (must_bad h c rest hlt hc).mono fun e w' ⟨h3, h4⟩ => .inr ⟨by rw [h3]; exact hat.wrong hg ((h2 _ hg).trans (if_neg hc)), h4.of0⟩



def litSt (s : Gm.K) (i : Nat) : Gm.K := if i = 0 then { s with st := .bang } else if i = 7 then { s with st := .section_ 0 } else { s with st := .literal i }
theorem lit_step (s : Gm.K) (hp : s.pend = []) (i : Nat) (h1 : 1 ≤ i) (h2 : i < 7) (x : UInt8) : (litSt s i).step x = if x = Gm.cdata.getD i 0 then some (litSt s (i + 1)) else none := by
  have e : litSt s i = { s with st := .literal i } := by unfold litSt; rw [if_neg (by omega), if_neg (by omega)]
  have e2 : litSt s (i + 1) = if i = 6 then { s with st := .section_ 0 } else { s with st := .literal (i + 1) } := by
    unfold litSt
    rw [if_neg (show ¬ i + 1 = 0 by omega)]
    by_cases h : i = 6
    · rw [if_pos (show i + 1 = 7 by omega), if_pos h]
    · rw [if_neg (show ¬ i + 1 = 7 by omega), if_neg h]
  rw [e, Gm.literal_step s hp i h2, e2]
  by_cases h6 : i = 6
  · simp [h6]
  · simp [h6]
theorem lit_rest (s : Gm.K) (i : Nat) (h1 : 1 ≤ i) (h2 : i < 7) : (litSt s i).rest = Gm.cdata.drop i ++ [93, 93, 62] ++ Gm.closing s.opn ++ Gm.rl s.root := by
  have e : litSt s i = { s with st := .literal i } := by unfold litSt; rw [if_neg (by omega), if_neg (by omega)]
  rw [e, Gm.literal_rest]



set_option maxRecDepth 100000 in
set_option maxHeartbeats 4000000 in
theorem remark_any {B : Nat} {w : World} {p : Nat} {r : R} (h : Rd B w p r) {s : Gm.K} (hp : s.pend = []) (hat : AtK r.b r.at_ { s with st := .bang }) (ho : s.opn = r.o) (hroot : s.root = r.root)
    (inside : Bool) (hin : inside = decide (s.opn ≠ [])) :
    Calls Tryd.prog 26 #[.pointer (some ⟨p, 0, none⟩), .bool inside] w (Goes B w p r { s with st := .between 0 }) := by
  have hle := h.at_le
  have hsm := h.small
  have HH := Lib.hid h
  have HP := Lib.hid hp
  have HO := Lib.hid ho
  have HRT := Lib.hid hroot
  have HAT := Lib.hid hat
  have HIN := Lib.hid hin
  clear h hp ho hroot hat hin
  by_cases hend : r.at_ = r.b.length
  · have hfin : Halts r.b (stopE (-1) ([45, 45, 45, 45, 62] ++ Gm.closing r.o ++ Gm.rl r.root)) := by
      refine HAT.out.ends hend ((Gm.bang_rest s).trans ?_)
      rw [HO.out, HRT.out]
    have HFIN := Lib.hid hfin
    have HE := Lib.hid hend
    clear hfin hend
    go_enter Tryd.func26, Tryd.ntmps26
    go_wp2_with fail
    refine (ended_yes HH.out HE.out).mono ?_
    rintro e w1 ⟨rfl, j1, rfl⟩
    go_wp2_with fail
    refine (end_any (HH.out.fr0 (Fr.drewN _ _ _)) [45, 45, 45, 45, 62] (by simp)).mono ?_
    rintro e w2 ⟨rfl, hf2⟩
    exact ⟨rfl, .inr ⟨HFIN.out, ((Fr.drewN _ _ _).trans hf2).of0⟩⟩
  · have hlt : r.at_ < r.b.length := by omega
    have HE := Lib.hid hend
    have hg := getD_some hlt
    clear hend
    by_cases hin91 : inside = true ∧ isIt [91] r.b r.at_ = true
    · obtain ⟨hi1, hi2⟩ := hin91
      subst hi1
      have hopn : s.opn ≠ [] := by have := HIN.out; simpa using this.symm
      have hak : AtK r.b (r.at_ + 1) { s with st := .literal 1 } := HAT.out.step (isIt_get hi2) (by rw [Gm.bang_step s HP.out, if_neg (by decide), if_pos ⟨rfl, hopn⟩])
      have hx91 : r.b.getD r.at_ 0 = 91 := by have := isIt_get hi2; rw [hg] at this; simpa using this
      have HX := Lib.hid hx91
      have HAK := Lib.hid hak
      have HI := Lib.hid hi2
      have HL := Lib.hid hlt
      clear hi2 hopn hak hx91 hg
      go_enter Tryd.func26, Tryd.ntmps26
      go_wp2_with fail
      refine (ended_no HH.out HE.out).mono ?_
      rintro e w1 ⟨rfl, j1, rfl⟩
      go_wp2_with fail
      refine (is_any (HH.out.fr0 (Fr.drewN _ _ _)) [91]).mono ?_
      simp only [HI.out]
      rintro e w2 ⟨rfl, j2, rfl⟩
      go_wp2_with fail
      go_loopg [14] 7 (fun k iv wr => ∃ i : Nat, i ≤ 7 ∧ k = 7 - i ∧ iv = .int .i64 i ∧ AtK r.b (r.at_ + i) (litSt s i) ∧ Rd B wr p { r with at_ := r.at_ + i } ∧ Fr (only p) w wr)
      case atStart => exact ⟨0, by omega, rfl, rfl, HAT.out, HH.out.fr0 (Fr.drewN _ _ _), Fr.drewN _ _ _⟩
      case round =>
        obtain ⟨i, hi, hk, rfl, hss, hrr, hff⟩ := hrel
        have HK := Lib.hid hk
        have HSS := Lib.hid hss
        have HRR := Lib.hid hrr
        have HFF := Lib.hid hff
        clear hk hss hrr hff
        have hcases : i = 0 ∨ i = 1 ∨ i = 2 ∨ i = 3 ∨ i = 4 ∨ i = 5 ∨ i = 6 ∨ i = 7 := by omega
        rcases hcases with rfl | rfl | rfl | rfl | rfl | rfl | rfl | rfl
        · have HLL := HL
          have HCC := HX
          have haa : AtK r.b (r.at_ + (0 + 1)) (litSt s (0 + 1)) := HAK.out
          have HAA := Lib.hid haa
          clear haa
          go_wp2_with fail
          go_region_with (go_at_call 32; refine (must_ok (HRR.out.fr0 (Fr.drewN _ _ _)) 91 [91, 67, 68, 65, 84, 65, 91, 93, 93, 62] HLL.out HCC.out).mono ?_; rintro e w2 ⟨rfl, hr2, hf2⟩)
          have HR2 := Lib.hid hr2
          have HF2 := Lib.hid hf2
          clear hr2 hf2
          go_wp2
          go_roundg (7 - (0 + 1))
          case measure => rw [HK.out]; omega
          case rel => exact ⟨0 + 1, by omega, rfl, by go_num, HAA.out, HR2.out, HFF.out.trans ((Fr.drewN _ _ _).trans HF2.out)⟩
        · have _t := True.intro
          have hle2 : r.at_ + 1 ≤ r.b.length := HRR.out.at_le
          have hstp := lit_step s HP.out 1 (by omega) (by omega)
          have hrst := lit_rest s 1 (by omega) (by omega)
          rw [HO.out, HRT.out] at hrst
          have HSTP := Lib.hid hstp
          have HRST := Lib.hid hrst
          clear hstp hrst
          by_cases he : r.at_ + 1 = r.b.length
          · have hw := HSS.out.ends he HRST.out
            have HW := Lib.hid hw
            have HE2 := Lib.hid he
            clear hw he
            go_wp2_with fail
            go_region_with (go_at_call 32; refine (must_end (HRR.out.fr0 (Fr.drewN _ _ _)) 67 [67, 68, 65, 84, 65, 91, 93, 93, 62] (by simp) HE2.out).mono ?_; rintro e w2 ⟨rfl, hf2⟩; unfold stopE; refine panics (P := Tryd.prog) (md := default) w2 ⟨rfl, .inr ⟨HW.out, HFF.out.trans ((Fr.drewN _ _ _).trans hf2.of0)⟩⟩ ?_)
            all_goals trivial
          · have hl2 : r.at_ + 1 < r.b.length := by omega
            have hg2 := getD_some hl2
            have HLL := Lib.hid hl2
            clear he
            by_cases hc : r.b.getD (r.at_ + 1) 0 = 67
            · have haa : AtK r.b (r.at_ + (1 + 1)) (litSt s (1 + 1)) := HSS.out.step hg2 ((HSTP.out _).trans (if_pos hc))
              have HAA := Lib.hid haa
              have HCC := Lib.hid hc
              clear haa hc hg2 hl2
              go_wp2_with fail
              go_region_with (go_at_call 32; refine (must_ok (HRR.out.fr0 (Fr.drewN _ _ _)) 67 [67, 68, 65, 84, 65, 91, 93, 93, 62] HLL.out HCC.out).mono ?_; rintro e w2 ⟨rfl, hr2, hf2⟩)
              have HR2 := Lib.hid hr2
              have HF2 := Lib.hid hf2
              clear hr2 hf2
              go_wp2
              go_roundg (7 - (1 + 1))
              case measure => rw [HK.out]; omega
              case rel => exact ⟨1 + 1, by omega, rfl, by go_num, HAA.out, HR2.out, HFF.out.trans ((Fr.drewN _ _ _).trans HF2.out)⟩
            · have hw := HSS.out.wrong hg2 ((HSTP.out _).trans (if_neg hc))
              have HW := Lib.hid hw
              have HCC := Lib.hid hc
              clear hw hc hg2 hl2
              go_wp2_with fail
              go_region_with (go_at_call 32; refine (must_bad (HRR.out.fr0 (Fr.drewN _ _ _)) 67 [67, 68, 65, 84, 65, 91, 93, 93, 62] HLL.out HCC.out).mono ?_; rintro e w2 ⟨rfl, hf2⟩; unfold stopE; refine panics (P := Tryd.prog) (md := default) w2 ⟨rfl, .inr ⟨HW.out, HFF.out.trans ((Fr.drewN _ _ _).trans hf2.of0)⟩⟩ ?_)
              all_goals trivial
        · have _t := True.intro
          have hle2 : r.at_ + 2 ≤ r.b.length := HRR.out.at_le
          have hstp := lit_step s HP.out 2 (by omega) (by omega)
          have hrst := lit_rest s 2 (by omega) (by omega)
          rw [HO.out, HRT.out] at hrst
          have HSTP := Lib.hid hstp
          have HRST := Lib.hid hrst
          clear hstp hrst
          by_cases he : r.at_ + 2 = r.b.length
          · have hw := HSS.out.ends he HRST.out
            have HW := Lib.hid hw
            have HE2 := Lib.hid he
            clear hw he
            go_wp2_with fail
            go_region_with (go_at_call 32; refine (must_end (HRR.out.fr0 (Fr.drewN _ _ _)) 68 [68, 65, 84, 65, 91, 93, 93, 62] (by simp) HE2.out).mono ?_; rintro e w2 ⟨rfl, hf2⟩; unfold stopE; refine panics (P := Tryd.prog) (md := default) w2 ⟨rfl, .inr ⟨HW.out, HFF.out.trans ((Fr.drewN _ _ _).trans hf2.of0)⟩⟩ ?_)
            all_goals trivial
          · have hl2 : r.at_ + 2 < r.b.length := by omega
            have hg2 := getD_some hl2
            have HLL := Lib.hid hl2
            clear he
            by_cases hc : r.b.getD (r.at_ + 2) 0 = 68
            · have haa : AtK r.b (r.at_ + (2 + 1)) (litSt s (2 + 1)) := HSS.out.step hg2 ((HSTP.out _).trans (if_pos hc))
              have HAA := Lib.hid haa
              have HCC := Lib.hid hc
              clear haa hc hg2 hl2
              go_wp2_with fail
              go_region_with (go_at_call 32; refine (must_ok (HRR.out.fr0 (Fr.drewN _ _ _)) 68 [68, 65, 84, 65, 91, 93, 93, 62] HLL.out HCC.out).mono ?_; rintro e w2 ⟨rfl, hr2, hf2⟩)
              have HR2 := Lib.hid hr2
              have HF2 := Lib.hid hf2
              clear hr2 hf2
              go_wp2
              go_roundg (7 - (2 + 1))
              case measure => rw [HK.out]; omega
              case rel => exact ⟨2 + 1, by omega, rfl, by go_num, HAA.out, HR2.out, HFF.out.trans ((Fr.drewN _ _ _).trans HF2.out)⟩
            · have hw := HSS.out.wrong hg2 ((HSTP.out _).trans (if_neg hc))
              have HW := Lib.hid hw
              have HCC := Lib.hid hc
              clear hw hc hg2 hl2
              go_wp2_with fail
              go_region_with (go_at_call 32; refine (must_bad (HRR.out.fr0 (Fr.drewN _ _ _)) 68 [68, 65, 84, 65, 91, 93, 93, 62] HLL.out HCC.out).mono ?_; rintro e w2 ⟨rfl, hf2⟩; unfold stopE; refine panics (P := Tryd.prog) (md := default) w2 ⟨rfl, .inr ⟨HW.out, HFF.out.trans ((Fr.drewN _ _ _).trans hf2.of0)⟩⟩ ?_)
              all_goals trivial
        · have _t := True.intro
          have hle2 : r.at_ + 3 ≤ r.b.length := HRR.out.at_le
          have hstp := lit_step s HP.out 3 (by omega) (by omega)
          have hrst := lit_rest s 3 (by omega) (by omega)
          rw [HO.out, HRT.out] at hrst
          have HSTP := Lib.hid hstp
          have HRST := Lib.hid hrst
          clear hstp hrst
          by_cases he : r.at_ + 3 = r.b.length
          · have hw := HSS.out.ends he HRST.out
            have HW := Lib.hid hw
            have HE2 := Lib.hid he
            clear hw he
            go_wp2_with fail
            go_region_with (go_at_call 32; refine (must_end (HRR.out.fr0 (Fr.drewN _ _ _)) 65 [65, 84, 65, 91, 93, 93, 62] (by simp) HE2.out).mono ?_; rintro e w2 ⟨rfl, hf2⟩; unfold stopE; refine panics (P := Tryd.prog) (md := default) w2 ⟨rfl, .inr ⟨HW.out, HFF.out.trans ((Fr.drewN _ _ _).trans hf2.of0)⟩⟩ ?_)
            all_goals trivial
          · have hl2 : r.at_ + 3 < r.b.length := by omega
            have hg2 := getD_some hl2
            have HLL := Lib.hid hl2
            clear he
            by_cases hc : r.b.getD (r.at_ + 3) 0 = 65
            · have haa : AtK r.b (r.at_ + (3 + 1)) (litSt s (3 + 1)) := HSS.out.step hg2 ((HSTP.out _).trans (if_pos hc))
              have HAA := Lib.hid haa
              have HCC := Lib.hid hc
              clear haa hc hg2 hl2
              go_wp2_with fail
              go_region_with (go_at_call 32; refine (must_ok (HRR.out.fr0 (Fr.drewN _ _ _)) 65 [65, 84, 65, 91, 93, 93, 62] HLL.out HCC.out).mono ?_; rintro e w2 ⟨rfl, hr2, hf2⟩)
              have HR2 := Lib.hid hr2
              have HF2 := Lib.hid hf2
              clear hr2 hf2
              go_wp2
              go_roundg (7 - (3 + 1))
              case measure => rw [HK.out]; omega
              case rel => exact ⟨3 + 1, by omega, rfl, by go_num, HAA.out, HR2.out, HFF.out.trans ((Fr.drewN _ _ _).trans HF2.out)⟩
            · have hw := HSS.out.wrong hg2 ((HSTP.out _).trans (if_neg hc))
              have HW := Lib.hid hw
              have HCC := Lib.hid hc
              clear hw hc hg2 hl2
              go_wp2_with fail
              go_region_with (go_at_call 32; refine (must_bad (HRR.out.fr0 (Fr.drewN _ _ _)) 65 [65, 84, 65, 91, 93, 93, 62] HLL.out HCC.out).mono ?_; rintro e w2 ⟨rfl, hf2⟩; unfold stopE; refine panics (P := Tryd.prog) (md := default) w2 ⟨rfl, .inr ⟨HW.out, HFF.out.trans ((Fr.drewN _ _ _).trans hf2.of0)⟩⟩ ?_)
              all_goals trivial
        · have _t := True.intro
          have hle2 : r.at_ + 4 ≤ r.b.length := HRR.out.at_le
          have hstp := lit_step s HP.out 4 (by omega) (by omega)
          have hrst := lit_rest s 4 (by omega) (by omega)
          rw [HO.out, HRT.out] at hrst
          have HSTP := Lib.hid hstp
          have HRST := Lib.hid hrst
          clear hstp hrst
          by_cases he : r.at_ + 4 = r.b.length
          · have hw := HSS.out.ends he HRST.out
            have HW := Lib.hid hw
            have HE2 := Lib.hid he
            clear hw he
            go_wp2_with fail
            go_region_with (go_at_call 32; refine (must_end (HRR.out.fr0 (Fr.drewN _ _ _)) 84 [84, 65, 91, 93, 93, 62] (by simp) HE2.out).mono ?_; rintro e w2 ⟨rfl, hf2⟩; unfold stopE; refine panics (P := Tryd.prog) (md := default) w2 ⟨rfl, .inr ⟨HW.out, HFF.out.trans ((Fr.drewN _ _ _).trans hf2.of0)⟩⟩ ?_)
            all_goals trivial
          · have hl2 : r.at_ + 4 < r.b.length := by omega
            have hg2 := getD_some hl2
            have HLL := Lib.hid hl2
            clear he
            by_cases hc : r.b.getD (r.at_ + 4) 0 = 84
            · have haa : AtK r.b (r.at_ + (4 + 1)) (litSt s (4 + 1)) := HSS.out.step hg2 ((HSTP.out _).trans (if_pos hc))
              have HAA := Lib.hid haa
              have HCC := Lib.hid hc
              clear haa hc hg2 hl2
              go_wp2_with fail
              go_region_with (go_at_call 32; refine (must_ok (HRR.out.fr0 (Fr.drewN _ _ _)) 84 [84, 65, 91, 93, 93, 62] HLL.out HCC.out).mono ?_; rintro e w2 ⟨rfl, hr2, hf2⟩)
              have HR2 := Lib.hid hr2
              have HF2 := Lib.hid hf2
              clear hr2 hf2
              go_wp2
              go_roundg (7 - (4 + 1))
              case measure => rw [HK.out]; omega
              case rel => exact ⟨4 + 1, by omega, rfl, by go_num, HAA.out, HR2.out, HFF.out.trans ((Fr.drewN _ _ _).trans HF2.out)⟩
            · have hw := HSS.out.wrong hg2 ((HSTP.out _).trans (if_neg hc))
              have HW := Lib.hid hw
              have HCC := Lib.hid hc
              clear hw hc hg2 hl2
              go_wp2_with fail
              go_region_with (go_at_call 32; refine (must_bad (HRR.out.fr0 (Fr.drewN _ _ _)) 84 [84, 65, 91, 93, 93, 62] HLL.out HCC.out).mono ?_; rintro e w2 ⟨rfl, hf2⟩; unfold stopE; refine panics (P := Tryd.prog) (md := default) w2 ⟨rfl, .inr ⟨HW.out, HFF.out.trans ((Fr.drewN _ _ _).trans hf2.of0)⟩⟩ ?_)
              all_goals trivial
        · have _t := True.intro
          have hle2 : r.at_ + 5 ≤ r.b.length := HRR.out.at_le
          have hstp := lit_step s HP.out 5 (by omega) (by omega)
          have hrst := lit_rest s 5 (by omega) (by omega)
          rw [HO.out, HRT.out] at hrst
          have HSTP := Lib.hid hstp
          have HRST := Lib.hid hrst
          clear hstp hrst
          by_cases he : r.at_ + 5 = r.b.length
          · have hw := HSS.out.ends he HRST.out
            have HW := Lib.hid hw
            have HE2 := Lib.hid he
            clear hw he
            go_wp2_with fail
            go_region_with (go_at_call 32; refine (must_end (HRR.out.fr0 (Fr.drewN _ _ _)) 65 [65, 91, 93, 93, 62] (by simp) HE2.out).mono ?_; rintro e w2 ⟨rfl, hf2⟩; unfold stopE; refine panics (P := Tryd.prog) (md := default) w2 ⟨rfl, .inr ⟨HW.out, HFF.out.trans ((Fr.drewN _ _ _).trans hf2.of0)⟩⟩ ?_)
            all_goals trivial
          · have hl2 : r.at_ + 5 < r.b.length := by omega
            have hg2 := getD_some hl2
            have HLL := Lib.hid hl2
            clear he
            by_cases hc : r.b.getD (r.at_ + 5) 0 = 65
            · have haa : AtK r.b (r.at_ + (5 + 1)) (litSt s (5 + 1)) := HSS.out.step hg2 ((HSTP.out _).trans (if_pos hc))
              have HAA := Lib.hid haa
              have HCC := Lib.hid hc
              clear haa hc hg2 hl2
              go_wp2_with fail
              go_region_with (go_at_call 32; refine (must_ok (HRR.out.fr0 (Fr.drewN _ _ _)) 65 [65, 91, 93, 93, 62] HLL.out HCC.out).mono ?_; rintro e w2 ⟨rfl, hr2, hf2⟩)
              have HR2 := Lib.hid hr2
              have HF2 := Lib.hid hf2
              clear hr2 hf2
              go_wp2
              go_roundg (7 - (5 + 1))
              case measure => rw [HK.out]; omega
              case rel => exact ⟨5 + 1, by omega, rfl, by go_num, HAA.out, HR2.out, HFF.out.trans ((Fr.drewN _ _ _).trans HF2.out)⟩
            · have hw := HSS.out.wrong hg2 ((HSTP.out _).trans (if_neg hc))
              have HW := Lib.hid hw
              have HCC := Lib.hid hc
              clear hw hc hg2 hl2
              go_wp2_with fail
              go_region_with (go_at_call 32; refine (must_bad (HRR.out.fr0 (Fr.drewN _ _ _)) 65 [65, 91, 93, 93, 62] HLL.out HCC.out).mono ?_; rintro e w2 ⟨rfl, hf2⟩; unfold stopE; refine panics (P := Tryd.prog) (md := default) w2 ⟨rfl, .inr ⟨HW.out, HFF.out.trans ((Fr.drewN _ _ _).trans hf2.of0)⟩⟩ ?_)
              all_goals trivial
        · have _t := True.intro
          have hle2 : r.at_ + 6 ≤ r.b.length := HRR.out.at_le
          have hstp := lit_step s HP.out 6 (by omega) (by omega)
          have hrst := lit_rest s 6 (by omega) (by omega)
          rw [HO.out, HRT.out] at hrst
          have HSTP := Lib.hid hstp
          have HRST := Lib.hid hrst
          clear hstp hrst
          by_cases he : r.at_ + 6 = r.b.length
          · have hw := HSS.out.ends he HRST.out
            have HW := Lib.hid hw
            have HE2 := Lib.hid he
            clear hw he
            go_wp2_with fail
            go_region_with (go_at_call 32; refine (must_end (HRR.out.fr0 (Fr.drewN _ _ _)) 91 [91, 93, 93, 62] (by simp) HE2.out).mono ?_; rintro e w2 ⟨rfl, hf2⟩; unfold stopE; refine panics (P := Tryd.prog) (md := default) w2 ⟨rfl, .inr ⟨HW.out, HFF.out.trans ((Fr.drewN _ _ _).trans hf2.of0)⟩⟩ ?_)
            all_goals trivial
          · have hl2 : r.at_ + 6 < r.b.length := by omega
            have hg2 := getD_some hl2
            have HLL := Lib.hid hl2
            clear he
            by_cases hc : r.b.getD (r.at_ + 6) 0 = 91
            · have haa : AtK r.b (r.at_ + (6 + 1)) (litSt s (6 + 1)) := HSS.out.step hg2 ((HSTP.out _).trans (if_pos hc))
              have HAA := Lib.hid haa
              have HCC := Lib.hid hc
              clear haa hc hg2 hl2
              go_wp2_with fail
              go_region_with (go_at_call 32; refine (must_ok (HRR.out.fr0 (Fr.drewN _ _ _)) 91 [91, 93, 93, 62] HLL.out HCC.out).mono ?_; rintro e w2 ⟨rfl, hr2, hf2⟩)
              have HR2 := Lib.hid hr2
              have HF2 := Lib.hid hf2
              clear hr2 hf2
              go_wp2
              go_roundg (7 - (6 + 1))
              case measure => rw [HK.out]; omega
              case rel => exact ⟨6 + 1, by omega, rfl, by go_num, HAA.out, HR2.out, HFF.out.trans ((Fr.drewN _ _ _).trans HF2.out)⟩
            · have hw := HSS.out.wrong hg2 ((HSTP.out _).trans (if_neg hc))
              have HW := Lib.hid hw
              have HCC := Lib.hid hc
              clear hw hc hg2 hl2
              go_wp2_with fail
              go_region_with (go_at_call 32; refine (must_bad (HRR.out.fr0 (Fr.drewN _ _ _)) 91 [91, 93, 93, 62] HLL.out HCC.out).mono ?_; rintro e w2 ⟨rfl, hf2⟩; unfold stopE; refine panics (P := Tryd.prog) (md := default) w2 ⟨rfl, .inr ⟨HW.out, HFF.out.trans ((Fr.drewN _ _ _).trans hf2.of0)⟩⟩ ?_)
              all_goals trivial
        · have ha7 : AtK r.b (r.at_ + 7) { s with st := .section_ 0 } := HSS.out
          have HA7 := Lib.hid ha7
          clear ha7
          go_wp2_with fail
          refine (until_any HRR.out (s := s) (marks_section s HP.out) HA7.out HO.out HRT.out).mono ?_
          rintro e w3 hgo
          rcases hgo with ⟨rfl, n, g1, g2, g3, g4⟩ | ⟨g1, g2⟩
          · have g1' : r.at_ + 7 < n := g1
            go_wp2
            go_end0
            exact .inl ⟨rfl, n, by omega, g2, g3, HFF.out.trans g4⟩
          · have _t := True.intro
            obtain ⟨a1, a2, rfl⟩ := g1.form
            unfold stopE
            exact ⟨rfl, .inr ⟨g1, HFF.out.trans g2⟩⟩
    · have hno : ∀ x, r.b[r.at_]? = some x → ({ s with st := .bang } : Gm.K).step x = if x = 45 then some { s with st := .dash } else none := by
        intro x hx
        rw [Gm.bang_step s HP.out]
        by_cases h45 : x = 45
        · rw [if_pos h45, if_pos h45]
        · rw [if_neg h45, if_neg h45, if_neg]
          rintro ⟨rfl, ho⟩
          exact hin91 ⟨by rw [HIN.out]; simpa using ho, by rw [isIt_at hx]; simp⟩
      have HNO := Lib.hid hno
      clear hno hg
      cases inside with
      | true =>
        have hi : isIt [91] r.b r.at_ = false := by
          cases h : isIt [91] r.b r.at_ with
          | false => rfl
          | true => exact absurd ⟨rfl, h⟩ hin91
        have HI := Lib.hid hi
        clear hi hin91
        go_enter Tryd.func26, Tryd.ntmps26
        go_wp2_with fail
        refine (ended_no HH.out HE.out).mono ?_
        rintro e w1 ⟨rfl, j1, rfl⟩
        go_wp2_with fail
        refine (is_any (HH.out.fr0 (Fr.drewN _ _ _)) [91]).mono ?_
        simp only [HI.out]
        rintro e w2 ⟨rfl, j2, rfl⟩
        go_wp2_with fail
        refine (must_at (HH.out.fr0 (Fr.drewN _ _ _)) HAT.out 45 [45, 45, 45, 45, 62] (by simp) (by rw [Gm.bang_rest, HO.out, HRT.out]) HNO.out).mono ?_
        rintro e w3 (⟨rfl, hl3, ha3, hr3, hf3⟩ | ⟨g1, g2⟩)
        · try simp only at hr3
          have HA3 := Lib.hid ha3
          have HR3 := Lib.hid hr3
          have HF3 := Lib.hid ((Fr.drewN (only p) w _).trans hf3)
          clear ha3 hr3 hf3
          go_wp2_with fail
          refine (must_at HR3.out HA3.out 45 [45, 45, 45, 62] (by simp) (by rw [Gm.dash_rest, HO.out, HRT.out]) (fun x _ => Gm.dash_step s HP.out x)).mono ?_
          rintro e w4 (⟨rfl, hl4, ha4, hr4, hf4⟩ | ⟨g1, g2⟩)
          · try simp only at hr4
            have HA4 := Lib.hid ha4
            have HR4 := Lib.hid hr4
            have HF4 := Lib.hid (HF3.out.trans hf4)
            clear ha4 hr4 hf4
            go_wp2_with fail
            refine (until_any HR4.out (s := s) (marks_comment s HP.out) HA4.out HO.out HRT.out).mono ?_
            rintro e w5 hgo
            rcases hgo with ⟨rfl, n, g1, g2, g3, g4⟩ | ⟨g1, g2⟩
            · have g1' : r.at_ + 1 + 1 < n := g1
              go_wp2
              go_end0
              exact .inl ⟨rfl, n, by omega, g2, g3, HF4.out.trans g4⟩
            · obtain ⟨a1, a2, rfl⟩ := g1.form
              unfold stopE
              exact ⟨rfl, .inr ⟨g1, HF4.out.trans g2⟩⟩
          · obtain ⟨a1, a2, rfl⟩ := g1.form
            unfold stopE
            exact ⟨rfl, .inr ⟨g1, HF3.out.trans g2⟩⟩
        · obtain ⟨a1, a2, rfl⟩ := g1.form
          unfold stopE
          exact ⟨rfl, .inr ⟨g1, (Fr.drewN _ _ _).trans g2⟩⟩
      | false =>
        clear hin91
        go_enter Tryd.func26, Tryd.ntmps26
        go_wp2_with fail
        refine (ended_no HH.out HE.out).mono ?_
        rintro e w1 ⟨rfl, j1, rfl⟩
        go_wp2_with fail
        refine (must_at (HH.out.fr0 (Fr.drewN _ _ _)) HAT.out 45 [45, 45, 45, 45, 62] (by simp) (by rw [Gm.bang_rest, HO.out, HRT.out]) HNO.out).mono ?_
        rintro e w3 (⟨rfl, hl3, ha3, hr3, hf3⟩ | ⟨g1, g2⟩)
        · try simp only at hr3
          have HA3 := Lib.hid ha3
          have HR3 := Lib.hid hr3
          have HF3 := Lib.hid ((Fr.drewN (only p) w _).trans hf3)
          clear ha3 hr3 hf3
          go_wp2_with fail
          refine (must_at HR3.out HA3.out 45 [45, 45, 45, 62] (by simp) (by rw [Gm.dash_rest, HO.out, HRT.out]) (fun x _ => Gm.dash_step s HP.out x)).mono ?_
          rintro e w4 (⟨rfl, hl4, ha4, hr4, hf4⟩ | ⟨g1, g2⟩)
          · try simp only at hr4
            have HA4 := Lib.hid ha4
            have HR4 := Lib.hid hr4
            have HF4 := Lib.hid (HF3.out.trans hf4)
            clear ha4 hr4 hf4
            go_wp2_with fail
            refine (until_any HR4.out (s := s) (marks_comment s HP.out) HA4.out HO.out HRT.out).mono ?_
            rintro e w5 hgo
            rcases hgo with ⟨rfl, n, g1, g2, g3, g4⟩ | ⟨g1, g2⟩
            · have g1' : r.at_ + 1 + 1 < n := g1
              go_wp2
              go_end0
              exact .inl ⟨rfl, n, by omega, g2, g3, HF4.out.trans g4⟩
            · obtain ⟨a1, a2, rfl⟩ := g1.form
              unfold stopE
              exact ⟨rfl, .inr ⟨g1, HF4.out.trans g2⟩⟩
          · obtain ⟨a1, a2, rfl⟩ := g1.form
            unfold stopE
            exact ⟨rfl, .inr ⟨g1, HF3.out.trans g2⟩⟩
        · obtain ⟨a1, a2, rfl⟩ := g1.form
          unfold stopE
          exact ⟨rfl, .inr ⟨g1, (Fr.drewN _ _ _).trans g2⟩⟩
end Go.Proofs.YtghhakilkmbpdaaDoor
