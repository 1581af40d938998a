/- Walks: reader.char. -/
import Derived.Test.YtghhakilkmbpdaaDoorWDummy
namespace Go.Proofs.YtghhakilkmbpdaaDoor
open Go Go.RowKit

theorem decode_bytes {B : Nat} (b : Gm.Bs) (n : Nat) (hn : b.length = n) (hb : b ≠ []) (bk off cap : Nat) (w : World) (h : Env B w) (hby : ∀ j, j < b.length → w.cell? ⟨bk, off + j, none⟩ = some (.int .u8 (b.getD j 0).toNat)) :
    Calls Tryd.prog 40 #[.slice (some ⟨bk, off, none⟩) n cap] w fun e w' => e = .returned (.tuple #[.int .i32 (decL b).1, .int .i64 (decL b).2]) ∧ Fr S0 w w' := by
  subst hn
  have := Any7.utf8_DecodeRune Tryd.lays7_32 ⟨b.toArray⟩ bk off cap w h.u8 (fun j hj => by
    rw [size_list] at hj
    rw [get_list]
    exact hby j hj)
  rw [decodeGo_list b hb, size_list] at this
  exact this.mono fun e w' ⟨he, hw⟩ => ⟨he, Fr.of_below hw⟩

/-- what a call of char comes to -/
def CharPost (B : Nat) (w : World) (p : Nat) (r : R) (c : Nat) (rest : Gm.Bs) (e : Ending) (w' : World) : Prop :=
  match Gm.charN c [] (r.b.drop r.at_) with
  | .ok q => e = .returned (.int .i32 (decL q).1) ∧ Rd B w' p { r with at_ := r.at_ + q.length } ∧ Fr (only p) w w'
  | .bad k => e = stopE ((r.at_ + k : Nat) : Int) [] ∧ Fr S0 w w'
  | .short q => e = stopE (-1) (Gm.compl c q ++ rest ++ Gm.closing r.o ++ (if !r.root then [60, 65, 47, 62] else [])) ∧ Fr S0 w w'

set_option maxRecDepth 100000 in
set_option maxHeartbeats 4000000 in
theorem char_any {B : Nat} {w : World} {p : Nat} {r : R} (h : Rd B w p r) (c : Nat) (hc : c < 6) (rest : Gm.Bs) (hrest : rest.length ≤ 1048576) (hlt : r.at_ < r.b.length) :
    Calls Tryd.prog 29 #[.pointer (some ⟨p, 0, none⟩), .int .i64 c, .string ⟨rest.toArray⟩] w (CharPost B w p r c rest) := by
  obtain ⟨bk, off, hao, hby⟩ : ∃ bk off, r.ao = some ⟨bk, off, none⟩ ∧ ∀ j, j < r.b.length → w.cell? ⟨bk, off + j, none⟩ = some (.int .u8 (r.b.getD j 0).toNat) := by
    rcases h.bytes with e | h
    · rw [e] at hlt; simp at hlt
    · exact h
  have hsm := h.small
  have hlc := h.lcap
  have hbc := h.bcap
  have HH := Lib.hid h
  have HA := Lib.hid hao
  have HY := Lib.hid hby
  clear h hao hby
  go_enter Tryd.func29, Tryd.ntmps29
  go_wp2_with fail
  go_loopg [7] 4 (fun k nv wr => ∃ n : Nat, 1 ≤ n ∧ n ≤ 4 ∧ k = 5 - n ∧ nv = .int .i64 n ∧ n ≤ r.b.length - r.at_ + 1 ∧ Gm.charN c ((r.b.drop r.at_).take (n - 1)) ((r.b.drop r.at_).drop (n - 1)) = Gm.charN c [] (r.b.drop r.at_) ∧
    (n = 1 ∨ Gm.begins c ((r.b.drop r.at_).take (n - 1)) = true ∧ Gm.whole ((r.b.drop r.at_).take (n - 1)) = false) ∧ Fr S0 w wr)
  case atStart => exact ⟨1, by omega, by omega, rfl, rfl, by omega, rfl, .inl rfl, Fr.refl _ _⟩
  case round =>
    obtain ⟨n, hn1, hn4, hk, rfl, hnl, hch, hpre, hfr⟩ := hrel
    have HK := Lib.hid hk
    have HC := Lib.hid hch
    have HP := Lib.hid hpre
    have HF := Lib.hid hfr
    clear hk hch hpre hfr
    have hR := HH.out.fr0 HF.out
    have c0 := hR.c0
    have c1 := hR.c1
    have f1 := hR.fz 1
    rw [HA.out] at c0
    have HR := Lib.hid hR
    clear hR
    by_cases hover : r.b.length < r.at_ + n
    · go_wp2_with fail
      go_quiet (fail)
      have hn : n = r.b.length - r.at_ + 1 := by omega
      have htl : (r.b.drop r.at_).take (n - 1) = r.b.drop r.at_ := by rw [List.take_of_length_le (by simp; omega)]
      have hbeg : Gm.begins c (r.b.drop r.at_) = true ∧ Gm.whole (r.b.drop r.at_) = false := by
        rcases HP.out with e | e
        · omega
        · rw [htl] at e; exact e
      have hlen : (r.b.drop r.at_).length = r.b.length - r.at_ := by simp
      have hBA : ∀ W, Fr S0 w W → BAt W (some ⟨bk, off + r.at_, none⟩) (r.b.drop r.at_) := by
        intro W hW
        refine .inr ⟨bk, off + r.at_, rfl, fun j hj => ?_⟩
        rw [hlen] at hj
        rw [hW.cell (p := ⟨bk, off + r.at_ + j, none⟩) (by have := lt_of_cell (HY.out r.at_ hlt); simpa using this) (fun h => h)]
        have := HY.out (r.at_ + j) (by omega)
        rw [← Nat.add_assoc] at this
        rw [this]
        congr 2
        simp [List.getD, List.getElem?_drop]
      have hcs : ∀ q, (convert 22 9 (.slice (some ⟨bk, off + r.at_, none⟩) (r.b.length - r.at_) (r.cap - r.at_))).run Tryd.prog (wr.drewN q) = .ok (.string ⟨(r.b.drop r.at_).toArray⟩) (wr.drewN q) := by
        intro q
        have := conv_str (hBA (wr.drewN q) (HF.out.trans (Fr.drewN _ _ _))) (r.cap - r.at_)
        rw [hlen] at this
        exact this
      have HBG := Lib.hid hbeg
      have HTL := Lib.hid htl
      have HN := Lib.hid hn
      clear hn htl hbeg hBA
      have hcat := cat_list
      have hcomp : ∀ q, Calls Tryd.prog 38 #[.int .i64 c, .string ⟨(r.b.drop r.at_).toArray⟩] (wr.drewN q) fun e w' => e = .returned (.string ⟨(Gm.compl c (r.b.drop r.at_)).toArray⟩) ∧ Fr S0 (wr.drewN q) w' :=
        fun q => completion_any hc _ HBG.out.1 _ (HR.out.env.fr0 (Fr.drewN _ _ _))
      have hcl : (Gm.compl c (r.b.drop r.at_)).length ≤ 4 := by rw [Gm.compl_len HBG.out.1]; have := Gm.toCome_le HBG.out.1; omega
      have HCM := Lib.hid hcomp
      clear hcomp hlen
      generalize htl : r.b.drop r.at_ = tl at hcs HCM hcl
      generalize hcp : Gm.compl c tl = cp at hcl HCM
      have HT := Lib.hid htl
      have HCP := Lib.hid hcp
      have hs1 := size_list cp
      have hs2 := size_list rest
      clear htl hcp
      go_wp2_with fail
      have hpo : ∀ w2, Fr S0 wr w2 → CharPost B w p r c rest (stopE (-1) (cp ++ rest ++ Gm.closing r.o ++ (if !r.root then [60, 65, 47, 62] else []))) w2 := by
        intro w2 hf
        have h1 := HC.out
        have hd : (r.b.drop r.at_).drop (n - 1) = [] := List.drop_of_length_le (by simp; omega)
        rw [HTL.out, hd] at h1
        unfold CharPost
        rw [← h1]
        simp only [Gm.charN]
        exact ⟨by rw [HT.out, HCP.out], HF.out.trans hf⟩
      have HPO := Lib.hid hpo
      clear hpo
      have hb2 : (cp ++ rest).length ≤ 1099511627776 := by simp; omega
      have HB2 := Lib.hid hb2
      clear hb2
      go_region_with (first | (go_at_call 38; refine (HCM.out _).mono ?_; rintro e w1 ⟨rfl, HF1⟩) | (go_at_call 18; refine (end_any (HR.out.fr0 ((Fr.drewN _ _ _).trans HF1)) _ HB2.out).mono ?_; rintro e w2 ⟨rfl, HF2⟩; unfold stopE; refine panics (P := Tryd.prog) (md := default) w2 ⟨rfl, HPO.out _ ((Fr.drewN _ _ _).trans (HF1.trans HF2))⟩ ?_))
      all_goals trivial
    · have hnl2 : n ≤ (r.b.drop r.at_).length := by simp; omega
      have hlen : ((r.b.drop r.at_).take n).length = n := by rw [List.length_take]; omega
      have hBA : ∀ W, Fr S0 w W → BAt W (some ⟨bk, off + r.at_, none⟩) ((r.b.drop r.at_).take n) := by
        intro W hW
        refine .inr ⟨bk, off + r.at_, rfl, fun j hj => ?_⟩
        rw [hlen] at hj
        rw [hW.cell (p := ⟨bk, off + r.at_ + j, none⟩) (by have := lt_of_cell (HY.out r.at_ hlt); simpa using this) (fun h => h)]
        have := HY.out (r.at_ + j) (by omega)
        rw [← Nat.add_assoc] at this
        rw [this]
        congr 2
        simp [List.getD, List.getElem?_take_of_lt hj, List.getElem?_drop]
      have HBA := Lib.hid hBA
      have HL := Lib.hid hlen
      have htk : (r.b.drop r.at_).take n = (r.b.drop r.at_).take (n - 1) ++ [(r.b.drop r.at_).getD (n - 1) 0] := by
        obtain ⟨m, rfl⟩ : ∃ m, n = m + 1 := ⟨n - 1, by omega⟩
        rw [List.take_succ_eq_append_getElem (by omega)]
        simp [List.getD, show m < r.b.length - r.at_ by omega]
      have hdr : (r.b.drop r.at_).drop (n - 1) = (r.b.drop r.at_).getD (n - 1) 0 :: (r.b.drop r.at_).drop n := by
        obtain ⟨m, rfl⟩ : ∃ m, n = m + 1 := ⟨n - 1, by omega⟩
        rw [Nat.add_sub_cancel, List.drop_eq_getElem_cons (by omega)]
        congr 1
        simp [List.getD, show m < r.b.length - r.at_ by omega]
      have hone : Gm.charN c [] (r.b.drop r.at_) = if Gm.begins c ((r.b.drop r.at_).take n) then (if Gm.whole ((r.b.drop r.at_).take n) then .ok ((r.b.drop r.at_).take n) else Gm.charN c ((r.b.drop r.at_).take n) ((r.b.drop r.at_).drop n)) else .bad (n - 1) := by
        rw [← HC.out, hdr, Gm.charN, ← htk]
        have : ((r.b.drop r.at_).take (n - 1)).length = n - 1 := by rw [List.length_take]; omega
        rw [this]
      have HO := Lib.hid hone
      clear hBA hlen htk hdr hone hnl2
      generalize hpc : (r.b.drop r.at_).take n = pc at HBA HL HO
      have HPC := Lib.hid hpc
      clear hpc
      have hover' : r.at_ + n ≤ r.b.length := by omega
      go_wp2_with fail
      go_quiet (fail)
      go_wp2_with fail
      go_quiet (fail)
      go_wp2_with fail
      cases hb : Gm.begins c pc with
      | false =>
        have hpo : ∀ w2, Fr S0 wr w2 → CharPost B w p r c rest (stopE ((r.at_ : Int) + n - 1) []) w2 := by
          intro w2 hf
          unfold CharPost
          rw [HO.out, hb]
          simp only [Bool.false_eq_true, if_false]
          exact ⟨by congr 1; omega, HF.out.trans hf⟩
        have HPO := Lib.hid hpo
        have HB := Lib.hid hb
        clear hb hpo
        refine (Begins_n c hc pc n HL.out _ _ _ (HR.out.env.fr0 (Fr.drewN _ _ _)) (HBA.out _ (HF.out.trans (Fr.drewN _ _ _))) (by omega)).mono ?_
        rw [HB.out]
        rintro e w1 ⟨rfl, HF1⟩
        have hR1 := HR.out.fr0 ((Fr.drewN _ _ _).trans HF1)
        have c1' := hR1.c1
        clear hR1
        go_wp2_with fail
        refine (wrong_any _ _).mono ?_
        rintro e w2 ⟨rfl, HF2⟩
        exact ⟨rfl, HPO.out _ ((Fr.drewN _ _ _).trans (HF1.trans HF2))⟩
      | true =>
        obtain ⟨d1, d2⟩ := dec_begins hc hb
        have hne := Gm.begins_ne hb
        have HB := Lib.hid hb
        clear hb
        refine (Begins_n c hc pc n HL.out _ _ _ (HR.out.env.fr0 (Fr.drewN _ _ _)) (HBA.out _ (HF.out.trans (Fr.drewN _ _ _))) (by omega)).mono ?_
        rw [HB.out]
        rintro e w1 ⟨rfl, HF1⟩
        have hR1 := HR.out.fr0 ((Fr.drewN _ _ _).trans HF1)
        have hA1 := HBA.out _ (HF.out.trans ((Fr.drewN _ _ _).trans HF1))
        have hB1 : ∀ j, j < pc.length → w1.cell? ⟨bk, off + r.at_ + j, none⟩ = some (.int .u8 (pc.getD j 0).toNat) := by
          rcases hA1 with e | ⟨b', o', e, hh⟩
          · exact absurd e hne
          · cases e; exact hh
        have HR1 := Lib.hid hR1
        have HB1 := Lib.hid hB1
        have HD1 := Lib.hid d1
        have HD2 := Lib.hid d2
        clear hR1 hA1 hB1 d1 d2
        cases hw : Gm.whole pc with
        | true =>
          have HW := Lib.hid hw
          clear hw
          obtain ⟨rr, hr1, hr2, hr3, _, hr5⟩ := HD1.out HW.out
          have HDL := Lib.hid hr1
          have HL' := HL.out
          have hr2' : n = 1 → rr < 128 := fun e => hr2 (by rw [HL']; exact e)
          clear hr1 hr2 hr5 HL'
          go_wp2_with fail
          refine (decode_bytes pc n HL.out hne bk (off + r.at_) _ w1 HR1.out.env HB1.out).mono ?_
          rw [HDL.out, HL.out]
          rintro e w2 ⟨rfl, HF2⟩
          have hR2 := HR1.out.fr0 HF2
          have c1' := hR2.c1
          have f1' := hR2.fz 1
          have HR2 := Lib.hid hR2
          clear hR2
          have g1 : ((n : Int) == (n : Int)) = true := by simp
          have hpo : ∀ w3, Rd B w3 p { r with at_ := r.at_ + n } → Fr (only p) w w3 → CharPost B w p r c rest (.returned (.int .i32 rr)) w3 := by
            intro w3 h1 h2
            unfold CharPost
            rw [HO.out, HB.out, HW.out]
            simp only [if_true]
            rw [HDL.out, HL.out]
            exact ⟨rfl, h1, h2⟩
          have HPO := Lib.hid hpo
          clear hpo
          by_cases hn1 : n = 1
          · have hrr := hr2' hn1
            have HN1 := Lib.hid hn1
            clear hn1 hr2'
            have hle1 : n ≤ 1 := by rw [HN1.out]; omega
            go_wp2
            go_ret
            exact HPO.out _ (HR2.out.moved (r.at_ + n) (by omega) hover') ((((HF.out.trans (Fr.drewN _ _ _)).trans (HF1.trans HF2)).of0).trans (Fr.setCell _ _ _ (.inl rfl)))
          · have hgt : 1 < n := by omega
            clear hr2' hn1
            go_wp2
            go_ret
            exact HPO.out _ (HR2.out.moved (r.at_ + n) (by omega) hover') ((((HF.out.trans (Fr.drewN _ _ _)).trans (HF1.trans HF2)).of0).trans (Fr.setCell _ _ _ (.inl rfl)))
        | false =>
          have HW := Lib.hid hw
          clear hw
          have HDL := Lib.hid (HD2.out HW.out)
          go_wp2_with fail
          refine (decode_bytes pc n HL.out hne bk (off + r.at_) _ w1 HR1.out.env HB1.out).mono ?_
          rw [HDL.out]
          rintro e w2 ⟨rfl, HF2⟩
          have hn4' : n + 1 ≤ 4 := by
            have h1 := begins_len HB.out
            have h2 := Gm.toCome_zero HB.out
            have h3 : Gm.toCome pc ≠ 0 := fun e => by rw [h2.1 e] at HW; exact absurd HW.out (by simp)
            have h4 : pc.length + Gm.toCome pc ≤ 4 := by
              cases pc with
              | nil => exact absurd rfl hne
              | cons x t =>
                obtain ⟨wd, l, least, k, hl, hk, _⟩ := Gm.begins_lead HB.out
                have := Gm.lead_le hl
                simp [Gm.toCome, Gm.width_of hl]; omega
            have := HL.out
            omega
          by_cases hn1 : n = 1
          · have HN1 := Lib.hid hn1
            clear hn1
            have hle1 : n ≤ 1 := by rw [HN1.out]; omega
            have g1 : ((1 : Int) == (n : Int)) = true := by rw [HN1.out]; rfl
            go_wp2
            go_roundg (4 - n)
            case measure => rw [HK.out]; omega
            case rel =>
              refine ⟨n + 1, by omega, hn4', by omega, by go_num, by omega, ?_, .inr ?_, HF.out.trans ((Fr.drewN _ _ _).trans (HF1.trans HF2))⟩
              · rw [Nat.add_sub_cancel, HPC.out, HO.out, HB.out, HW.out]; rfl
              · rw [Nat.add_sub_cancel, HPC.out]; exact ⟨HB.out, HW.out⟩
          · have hgt : 1 < n := by omega
            have g1 : ((1 : Int) == (n : Int)) = false := by simp; omega
            clear hn1
            go_wp2
            go_roundg (4 - n)
            case measure => rw [HK.out]; omega
            case rel =>
              refine ⟨n + 1, by omega, hn4', by omega, by go_num, by omega, ?_, .inr ?_, HF.out.trans ((Fr.drewN _ _ _).trans (HF1.trans HF2))⟩
              · rw [Nat.add_sub_cancel, HPC.out, HO.out, HB.out, HW.out]; rfl
              · rw [Nat.add_sub_cancel, HPC.out]; exact ⟨HB.out, HW.out⟩
end Go.Proofs.YtghhakilkmbpdaaDoor
