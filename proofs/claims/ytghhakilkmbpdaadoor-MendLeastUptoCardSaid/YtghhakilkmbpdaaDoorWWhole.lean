/- Walks: mend.wholeName. -/
import Derived.Test.YtghhakilkmbpdaaDoorWScan
namespace Go.Proofs.YtghhakilkmbpdaaDoor
open Go Go.RowKit

set_option maxHeartbeats 1600000 in
theorem wholeName_any {B : Nat} (b : Gm.Bs) (bk off cap : Nat) (hcap : b.length ≤ cap) (hcap2 : cap ≤ 9223372036854775807) (hsmall : b.length ≤ 1000000000000) (w : World) (h : Env B w)
    (hby : ∀ j, j < b.length → w.cell? ⟨bk, off + j, none⟩ = some (.int .u8 (b.getD j 0).toNat)) :
    Calls Tryd.prog 42 #[.slice (some ⟨bk, off, none⟩) b.length cap] w fun e w' => (∃ k : Nat, e = .returned (.int .i64 k) ∧ (k = b.length ↔ Gm.nameLike [] 2 b = true)) ∧ Fr S0 w w' := by
  have HEnv := Lib.hid h
  have HBY := Lib.hid hby
  clear h hby
  go_enter Tryd.func42, Tryd.ntmps42
  go_wp2_with fail
  go_loopg [3, 4, 5] (b.length + 1) (fun k cv fv nv wr => ∃ c fr n : Nat, (c = 2 ∨ c = 3) ∧ 1 ≤ n ∧ fr + n ≤ b.length + 1 ∧ k = b.length + 1 - (fr + n) + 1 ∧ cv = .int .i64 c ∧ fv = .int .i64 fr ∧ nv = .int .i64 n ∧
    ((b.drop fr).take (n - 1) = [] ∨ Gm.begins c ((b.drop fr).take (n - 1)) = true ∧ Gm.whole ((b.drop fr).take (n - 1)) = false) ∧ Gm.nameLike ((b.drop fr).take (n - 1)) c (b.drop (fr + (n - 1))) = Gm.nameLike [] 2 b ∧ Fr S0 w wr)
  case atStart => exact ⟨2, 0, 1, .inl rfl, Nat.le_refl _, by omega, by omega, rfl, rfl, rfl, .inl rfl, rfl, Fr.refl _ _⟩
  case round =>
    obtain ⟨c, fr, n, hc, hn1, hn, hk, rfl, rfl, rfl, hp, hl, hf⟩ := hrel
    have HK := Lib.hid hk
    have HPP := Lib.hid hp
    have HL := Lib.hid hl
    have HF := Lib.hid hf
    clear hk hp hl hf
    by_cases hlt : fr + n ≤ b.length
    · have hc6 : c < 6 := by omega
      have hlen : ((b.drop fr).take n).length = n := by rw [List.length_take, List.length_drop]; omega
      have htk : (b.drop fr).take n = (b.drop fr).take (n - 1) ++ [b.getD (fr + (n - 1)) 0] := by
        obtain ⟨m, rfl⟩ : ∃ m, n = m + 1 := ⟨n - 1, by omega⟩
        rw [List.take_succ_eq_append_getElem (by rw [List.length_drop]; omega)]
        simp [List.getD, show fr + m < b.length by omega]
      have hdr : b.drop (fr + (n - 1)) = b.getD (fr + (n - 1)) 0 :: b.drop (fr + n) := by
        have := drop_cons (b := b) (n := fr + (n - 1)) (by omega)
        rw [this]
        congr 2
        omega
      have hstep : Gm.nameLike [] 2 b = if Gm.begins c ((b.drop fr).take n) then (if Gm.whole ((b.drop fr).take n) then Gm.nameLike [] 3 (b.drop (fr + n)) else Gm.nameLike ((b.drop fr).take n) c (b.drop (fr + n))) else false := by
        rw [← HL.out, hdr, Gm.nameLike, ← htk]
      have hBA : ∀ W, Fr S0 w W → BAt W (some ⟨bk, off + fr, none⟩) ((b.drop fr).take n) := by
        intro W hW
        refine .inr ⟨bk, off + fr, rfl, fun j hj => ?_⟩
        rw [hlen] at hj
        have hb := HBY.out (fr + j) (by omega)
        rw [← Nat.add_assoc] at hb
        rw [hW.cell (lt_of_cell hb) (fun h => h), hb]
        congr 2
        simp [List.getD, List.getElem?_take_of_lt hj, List.getElem?_drop]
      have hcs : ∀ W, Fr S0 w W → (convert 22 9 (.slice (some ⟨bk, off + fr, none⟩) n (cap - fr))).run Tryd.prog W = .ok (.string ⟨((b.drop fr).take n).toArray⟩) W := by
        intro W hW
        have := conv_str (hBA W hW) (cap - fr)
        rw [hlen] at this
        exact this
      have HBA := Lib.hid hBA
      have HCS := Lib.hid hcs
      have HLEN := Lib.hid hlen
      have HST := Lib.hid hstep
      clear hlen htk hdr hstep hBA hcs
      generalize hpc : (b.drop fr).take n = pc at HBA HCS HLEN HST
      have HPC := Lib.hid hpc
      clear hpc
      cases hb : Gm.begins c pc with
      | false =>
        have hbg := Begins_n c hc6 pc n HLEN.out (some ⟨bk, off + fr, none⟩) (cap - fr) wr (HEnv.out.fr0 HF.out) (HBA.out _ HF.out) (by omega)
        rw [hb] at hbg
        have hst := HST.out
        rw [hb] at hst
        simp only [Bool.false_eq_true, if_false] at hst
        have HBG := Lib.hid hbg
        have HS := Lib.hid hst
        clear hbg hst hb
        go_wp2_with fail
        refine HBG.out.mono ?_
        rintro e w1 ⟨rfl, hf1⟩
        go_wp2
        go_ret
        refine ⟨⟨fr, rfl, ?_⟩, HF.out.trans hf1⟩
        rw [HS.out]
        constructor
        · intro e; omega
        · intro e; cases e
      | true =>
        have hbg := Begins_n c hc6 pc n HLEN.out (some ⟨bk, off + fr, none⟩) (cap - fr) wr (HEnv.out.fr0 HF.out) (HBA.out _ HF.out) (by omega)
        rw [hb] at hbg
        have hst := HST.out
        rw [hb] at hst
        simp only [if_true] at hst
        have hfull := fun W (hW : Env B W) => full_any hc6 pc hb W hW
        have HBG := Lib.hid hbg
        have HFU := Lib.hid hfull
        have HB := Lib.hid hb
        clear hbg hfull hb
        go_wp2_with fail
        refine HBG.out.mono ?_
        rintro e w1 ⟨rfl, hf1⟩
        have HF1 := Lib.hid hf1
        have hcs := HCS.out w1 (HF.out.trans hf1)
        clear hf1
        cases hw : Gm.whole pc with
        | true =>
          have hfu := HFU.out w1 (HEnv.out.fr0 (HF.out.trans HF1.out))
          rw [hw] at hfu
          rw [hw, if_pos rfl] at hst
          have HFU1 := Lib.hid hfu
          have HS := Lib.hid hst
          clear hfu hst hw
          go_wp2_with fail
          refine HFU1.out.mono ?_
          rintro e w2 ⟨rfl, hf2⟩
          have HF2 := Lib.hid hf2
          clear hf2 hcs
          go_wp2
          go_roundg (b.length + 1 - (fr + n))
          case measure => rw [HK.out]; omega
          case rel => exact ⟨3, fr + n, 1, .inr rfl, Nat.le_refl _, by omega, by omega, rfl, by go_num, by go_num, .inl rfl, HS.out.symm, HF.out.trans (HF1.out.trans HF2.out)⟩
        | false =>
          have hfu := HFU.out w1 (HEnv.out.fr0 (HF.out.trans HF1.out))
          rw [hw] at hfu
          rw [hw, if_neg (by simp)] at hst
          have HFU1 := Lib.hid hfu
          have HS := Lib.hid hst
          have HW := Lib.hid hw
          clear hfu hst hw
          go_wp2_with fail
          refine HFU1.out.mono ?_
          rintro e w2 ⟨rfl, hf2⟩
          have HF2 := Lib.hid hf2
          clear hf2 hcs
          go_wp2
          go_roundg (b.length + 1 - (fr + n))
          case measure => rw [HK.out]; omega
          case rel => exact ⟨c, fr, n + 1, hc, by omega, by omega, by omega, rfl, rfl, by go_num, by rw [Nat.add_sub_cancel, HPC.out]; exact .inr ⟨HB.out, HW.out⟩, by rw [Nat.add_sub_cancel, HPC.out]; exact HS.out.symm, HF.out.trans (HF1.out.trans HF2.out)⟩
    · have hfn : fr + (n - 1) = b.length := by omega
      have hl := HL.out
      rw [hfn, List.drop_length] at hl
      have hyes : Gm.nameLike [] 2 b = true := by
        rw [← hl]
        simp only [Gm.nameLike]
        rcases HPP.out with h | ⟨h, _⟩
        · simp [h]
        · simp [h]
      have HY := Lib.hid hyes
      clear hl hyes hfn
      go_wp2
      go_ret
      exact ⟨⟨b.length, rfl, by simp [HY.out]⟩, HF.out⟩
end Go.Proofs.YtghhakilkmbpdaaDoor
