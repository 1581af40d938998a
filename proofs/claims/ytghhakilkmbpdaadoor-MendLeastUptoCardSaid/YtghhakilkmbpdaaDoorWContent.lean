/- Walks: reader.content. -/
import Derived.Test.YtghhakilkmbpdaaDoorWMarkup
namespace Gm
theorem takes_between {s : K} {n : Nat} (hst : s.st = .between n) (hp : s.pend = []) (ho : s.opn ≠ []) {x : UInt8} (h1 : x ≠ 60) (h2 : x ≠ 38) (h3 : x ≠ 93) (h4 : x ≠ 62) : Takes s 0 x := by
  refine ⟨by rw [hst]; simp, hp, by simp [K.cls, hst, ho], fun hx => ?_⟩
  simp [K.ascii, hst, h1, h2, h3, h4, ho, K.took, hp]
theorem between_took {s : K} {n : Nat} (hst : s.st = .between n) (q : Bs) : s.took q = { s with st := .between 0, pend := [] } := by simp [K.took, hst]
theorem between_rest {s : K} {n : Nat} (hst : s.st = .between n) (hp : s.pend = []) : s.rest = closing s.opn ++ rl s.root := by
  rw [rest_eq s (by rw [hst]; simp)]
  simp [K.within, K.left, hst, hp]
theorem between_cut {s : K} {n : Nat} (hst : s.st = .between n) (ho : s.opn ≠ []) {q : Bs} (hq : q ≠ []) : ({ s with pend := q } : K).rest = compl 0 q ++ closing s.opn ++ rl s.root := by
  rw [rest_eq _ (by rw [hst]; simp)]
  cases q with
  | nil => exact absurd rfl hq
  | cons a t => simp [K.within, K.left, K.cls, hst, ho]
theorem between_amp {s : K} {n : Nat} (hst : s.st = .between n) (hp : s.pend = []) (ho : s.opn ≠ []) : s.step 38 = some { s with st := .named none [] } := by
  rw [step_ascii (by rw [hst]; simp) hp (by decide)]
  simp [K.ascii, hst, ho]
theorem between_brk {s : K} {n : Nat} (hst : s.st = .between n) (hp : s.pend = []) (ho : s.opn ≠ []) : s.step 93 = some { s with st := .between (n + 1) } := by
  rw [step_ascii (by rw [hst]; simp) hp (by decide)]
  simp [K.ascii, hst, ho]
theorem between_gt {s : K} {n : Nat} (hst : s.st = .between n) (hp : s.pend = []) (ho : s.opn ≠ []) : s.step 62 = if 2 ≤ n then none else some { s with st := .between 0 } := by
  rw [step_ascii (by rw [hst]; simp) hp (by decide)]
  by_cases h : 2 ≤ n
  · simp [K.ascii, hst, ho, h]
  · simp [K.ascii, hst, ho, h]
    decide +kernel
end Gm
namespace Go.Proofs.YtghhakilkmbpdaaDoor
open Go Go.RowKit

theorem beq_ne {x : UInt8} {n : Nat} (hn : n < 256) (h : x ≠ UInt8.ofNat n) : ((x.toNat : Int) == (n : Int)) = false := by
  rw [beq_eq_false_iff_ne]
  intro e
  apply h
  rw [← UInt8.toNat_inj]
  have : x.toNat = n := by omega
  rw [this]
  simp [Nat.mod_eq_of_lt hn]

set_option maxRecDepth 100000 in
set_option maxHeartbeats 4000000 in
theorem content_any {B : Nat} {w : World} {p : Nat} {r : R} (h : Rd B w p r) {s : Gm.K} (hst : s.st = .between 0) (hp : s.pend = []) (hat : AtK r.b r.at_ s) (ho : s.opn = r.o) (hroot : s.root = r.root) (hro : r.o ≠ []) :
    Calls Tryd.prog 22 #[.pointer (some ⟨p, 0, none⟩)] w (MPost B w p r) := by
  have hsm := h.small
  have hle := h.at_le
  have hone : s.opn ≠ [] := by rw [ho]; exact hro
  have hat0 : AtK r.b r.at_ { s with st := .between 0 } := by
    obtain ⟨st, pend, opn, root, name, had, attr⟩ := s
    simp only at hst
    subst hst
    exact hat
  have HH := Lib.hid h
  have HP := Lib.hid hp
  have HO := Lib.hid ho
  have HON := Lib.hid hone
  have HRT := Lib.hid hroot
  have HAT := Lib.hid hat0
  clear h hst hat ho hroot hp hat0 hone hro
  go_enter Tryd.func22, Tryd.ntmps22
  go_wp2_with fail
  go_loopg [2] (r.b.length - r.at_) (fun k bv wr => ∃ n m : Nat, r.at_ ≤ n ∧ n ≤ r.b.length ∧ k = r.b.length - n ∧ bv = .int .i64 m ∧ m ≤ n ∧ AtK r.b n { s with st := .between m } ∧ Rd B wr p { r with at_ := n } ∧ Fr (only p) w wr)
  case atStart => exact ⟨r.at_, 0, Nat.le_refl _, hle, rfl, rfl, Nat.zero_le _, HAT.out, HH.out, Fr.refl _ _⟩
  case round =>
    obtain ⟨n, m, h1, h2, hk, rfl, hmn, hat, hr, hf⟩ := hrel
    have HK := Lib.hid hk
    have HA := Lib.hid hat
    have HR := Lib.hid hr
    have HF := Lib.hid hf
    clear hk hat hr hf
    by_cases hend : n = r.b.length
    · have HE := Lib.hid hend
      clear hend
      go_wp2_with fail
      refine (ended_yes HR.out HE.out).mono ?_
      rintro e w1 ⟨rfl, q, rfl⟩
      go_wp2_with fail
      refine (end_any (HR.out.fr0 (Fr.drewN _ _ _)) [] (by simp)).mono ?_
      rintro e w2 ⟨rfl, hf2⟩
      have hw : Halts r.b (stopE (-1) ([] ++ Gm.closing r.o ++ (if !r.root then [60, 65, 47, 62] else []))) := by
        refine HA.out.ends HE.out ?_
        rw [Gm.between_rest (s := { s with st := .between m }) rfl HP.out]
        simp only [HO.out, HRT.out]
        rfl
      unfold stopE at hw ⊢
      exact ⟨rfl, .inr ⟨hw, HF.out.above.trans ((Fr.drewN _ _ _).trans hf2.of0)⟩⟩
    · have hlt : n < r.b.length := by omega
      obtain ⟨bk, off, hao, hc⟩ := HR.out.byte hlt
      simp only at hao hc
      have c0 := HR.out.c0
      have c1 := HR.out.c1
      have f1 := HR.out.fz 1
      simp only at c0 c1
      rw [hao] at c0
      have hgs := getD_some hlt
      have HE := Lib.hid hend
      have HL := Lib.hid hlt
      have htc := fun c (ht : Gm.Takes { s with st := .between m } c (r.b.getD n 0)) => HA.out.char hlt ht
      have HTC := Lib.hid htc
      clear hend hao htc
      by_cases hx60 : r.b.getD n 0 = 60
      · rw [hx60] at hgs hc
        have HG := Lib.hid hgs
        clear hgs hx60
        go_wp2_with fail
        refine (ended_no HR.out HE.out).mono ?_
        rintro e w1 ⟨rfl, q, rfl⟩
        go_wp2_with fail
        go_quiet (fail)
        go_wp2_with fail
        refine (markup_any (HR.out.fr0 (Fr.drewN _ _ _)) (s := { s with st := .between m }) rfl HP.out HA.out HO.out HRT.out HG.out).mono ?_
        intro e w2 hpost
        have hm := hpost.m (w0 := w) (r0 := r) rfl ⟨_, _, rfl⟩ h1 (HF.out.above.trans (Fr.drewN _ _ _))
        clear hpost
        rcases hm with ⟨rfl, hm⟩ | ⟨g1, g2⟩
        · go_wp2_with fail
          refine bodyPost_ret (results_none rfl _ _ _) rfl ?_
          exact .inl ⟨rfl, hm⟩
        · obtain ⟨a1, a2, rfl⟩ := g1.form
          unfold stopE at g1 ⊢
          exact ⟨rfl, .inr ⟨g1, g2⟩⟩
      · by_cases hx38 : r.b.getD n 0 = 38
        · rw [hx38] at hgs hc
          have hst2 : AtK r.b (n + 1) { s with st := .named none [] } := HA.out.step hgs (Gm.between_amp (s := { s with st := .between m }) rfl HP.out HON.out)
          have href : ∀ W, Fr S0 wr W → Calls Tryd.prog 28 #[.pointer (some ⟨p, 0, none⟩), .string ⟨#[]⟩] W (Goes B W p { r with at_ := n } { s with st := .between 0 }) :=
            fun W hW => reference_any (HR.out.fr0 hW) (s := { s with st := .between m }) none HP.out HL.out hst2 HO.out HRT.out
          have HREF := Lib.hid href
          clear hgs hx60 hx38 hst2 href
          go_wp2_with fail
          refine (ended_no HR.out HE.out).mono ?_
          rintro e w1 ⟨rfl, q, rfl⟩
          go_wp2_with fail
          go_quiet (fail)
          go_wp2_with fail
          refine (HREF.out _ (Fr.drewN _ _ _)).mono ?_
          rintro e w2 (⟨rfl, n2, g1, g2, g3, g4⟩ | ⟨g1, g2⟩)
          · simp only at g1 g2
            have hn2 := g3.at_le
            simp only at hn2
            have HA2 := Lib.hid g2
            have HR2 := Lib.hid g3
            have HF2 := Lib.hid ((HF.out.trans (Fr.drewN _ _ _)).trans g4)
            clear g2 g3 g4
            go_wp2_with fail
            go_roundg (r.b.length - n2)
            case measure => rw [HK.out]; omega
            case rel => exact ⟨n2, 0, by omega, hn2, rfl, rfl, Nat.zero_le _, HA2.out, HR2.out, HF2.out⟩
          · obtain ⟨a1, a2, rfl⟩ := g1.form
            unfold stopE at g1 ⊢
            exact ⟨rfl, .inr ⟨g1, ((HF.out.trans (Fr.drewN _ _ _)).trans g2).above⟩⟩
        · by_cases hx93 : r.b.getD n 0 = 93
          · rw [hx93] at hgs hc
            have hst2 : AtK r.b (n + 1) { s with st := .between (m + 1) } := HA.out.step hgs (Gm.between_brk (s := { s with st := .between m }) rfl HP.out HON.out)
            have HA2 := Lib.hid hst2
            clear hgs hx60 hx38 hx93 hst2
            go_wp2_with fail
            refine (ended_no HR.out HE.out).mono ?_
            rintro e w1 ⟨rfl, q, rfl⟩
            go_wp2_with fail
            go_quiet (fail)
            go_wp2_with fail
            go_roundg (r.b.length - (n + 1))
            case measure => rw [HK.out]; omega
            case rel => exact ⟨n + 1, m + 1, by omega, by omega, rfl, by go_num, by omega, HA2.out, (HR.out.fr0 (Fr.drewN _ _ _)).moved (n + 1) (by simp) HL.out, (HF.out.trans (Fr.drewN _ _ _)).trans (Fr.setCell _ _ _ (.inl rfl))⟩
          · by_cases hx62 : r.b.getD n 0 = 62
            · rw [hx62] at hgs hc
              have hstp := Gm.between_gt (s := { s with st := .between m }) rfl HP.out HON.out
              by_cases hm2 : 2 ≤ m
              · rw [if_pos hm2] at hstp
                have HW := Lib.hid (HA.out.wrong hgs hstp)
                have gm : decide ((m : Int) ≥ 2) = true := by rw [decide_eq_true_iff]; omega
                clear hgs hx60 hx38 hx93 hx62 hstp
                go_wp2_with fail
                refine (ended_no HR.out HE.out).mono ?_
                rintro e w1 ⟨rfl, q, rfl⟩
                go_wp2_with fail
                go_quiet (fail)
                go_wp2_with fail
                refine (wrong_any _ _).mono ?_
                rintro e w2 ⟨rfl, hf2⟩
                have hw := HW.out
                unfold stopE at hw ⊢
                exact ⟨rfl, .inr ⟨hw, HF.out.above.trans ((Fr.drewN _ _ _).trans hf2.of0)⟩⟩
              · rw [if_neg hm2] at hstp
                have HA2 := Lib.hid (HA.out.step hgs hstp)
                have gm : decide ((m : Int) ≥ 2) = false := by rw [decide_eq_false_iff_not]; omega
                clear hgs hx60 hx38 hx93 hx62 hstp hm2
                go_wp2_with fail
                refine (ended_no HR.out HE.out).mono ?_
                rintro e w1 ⟨rfl, q, rfl⟩
                go_wp2_with fail
                go_quiet (fail)
                go_wp2_with fail
                go_roundg (r.b.length - (n + 1))
                case measure => rw [HK.out]; omega
                case rel => exact ⟨n + 1, 0, by omega, by omega, rfl, rfl, by omega, HA2.out, (HR.out.fr0 (Fr.drewN _ _ _)).moved (n + 1) (by simp) HL.out, (HF.out.trans (Fr.drewN _ _ _)).trans (Fr.setCell _ _ _ (.inl rfl))⟩
            · have htk := Gm.takes_between (s := { s with st := .between m }) rfl HP.out HON.out hx60 hx38 hx93 hx62
              have HT := Lib.hid (HTC.out 0 htk)
              have g1 : (((r.b.getD n 0).toNat : Int) == 60) = false := beq_ne (n := 60) (by omega) hx60
              have g2 : (((r.b.getD n 0).toNat : Int) == 38) = false := beq_ne (n := 38) (by omega) hx38
              have g3 : (((r.b.getD n 0).toNat : Int) == 93) = false := beq_ne (n := 93) (by omega) hx93
              have g4 : (((r.b.getD n 0).toNat : Int) == 62) = false := beq_ne (n := 62) (by omega) hx62
              have hchar : ∀ w1, Fr S0 wr w1 → Calls Tryd.prog 29 #[.pointer (some ⟨p, 0, none⟩), .int .i64 0, .string ⟨#[]⟩] w1 (CharPost B w1 p { r with at_ := n } 0 []) :=
                fun w1 hf => char_any (HR.out.fr0 hf) 0 (by omega) [] (by simp) HL.out
              have HCH := Lib.hid hchar
              clear hgs hx60 hx38 hx93 hx62 htk hchar
              generalize r.b.getD n 0 = x at hc g1 g2 g3 g4
              go_wp2_with fail
              refine (ended_no HR.out HE.out).mono ?_
              rintro e w1 ⟨rfl, q, rfl⟩
              go_wp2_with fail
              go_quiet (fail)
              go_wp2_with fail
              refine (HCH.out _ (Fr.drewN _ _ _)).mono ?_
              rintro e w2 hpost
              unfold CharPost at hpost
              simp only at hpost
              cases hch : Gm.charN 0 [] (r.b.drop n) with
              | ok q =>
                rw [hch] at hpost
                obtain ⟨rfl, hR2, hF2⟩ := hpost
                have hq : 0 < q.length := by have := ((Gm.charN_spec 0 (r.b.drop n) [] (.inl rfl)).1 q hch).2.2.1; simpa using this
                have hq2 := hR2.at_le
                simp only at hq2
                have hak := HT.out.1 q hch
                rw [Gm.between_took (s := { s with st := .between m }) rfl] at hak
                have hak2 : AtK r.b (n + q.length) { s with st := .between 0 } := by
                  have e : ({ s with st := .between 0 } : Gm.K) = { s with st := .between 0, pend := [] } := by rw [← HP.out]
                  rw [e]
                  exact hak
                have HAK := Lib.hid hak2
                have HR2 := Lib.hid hR2
                have HF2 := Lib.hid hF2
                clear hch hR2 hF2 hak hak2 g1 g2 g3 g4
                go_wp2
                go_roundg (r.b.length - (n + q.length))
                case measure => rw [HK.out]; omega
                case rel => exact ⟨n + q.length, 0, by omega, hq2, rfl, rfl, Nat.zero_le _, HAK.out, HR2.out, HF.out.trans ((Fr.drewN _ _ _).trans HF2.out)⟩
              | bad k =>
                rw [hch] at hpost
                obtain ⟨rfl, hF2⟩ := hpost
                have hw := HT.out.2.1 k hch
                unfold stopE at hw ⊢
                exact ⟨rfl, .inr ⟨hw, HF.out.above.trans ((Fr.drewN _ _ _).trans hF2.of0)⟩⟩
              | short q =>
                rw [hch] at hpost
                obtain ⟨rfl, hF2⟩ := hpost
                obtain ⟨hrun, hqn⟩ := HT.out.2.2 q hch
                have hw : Halts r.b (stopE (-1) (Gm.compl 0 q ++ [] ++ Gm.closing r.o ++ (if !r.root then [60, 65, 47, 62] else []))) := by
                  refine .inr ⟨_, hrun, ?_⟩
                  rw [Gm.between_cut (s := { s with st := .between m }) rfl HON.out hqn]
                  simp only [HO.out, HRT.out, List.append_nil]
                  rfl
                unfold stopE at hw ⊢
                exact ⟨rfl, .inr ⟨hw, HF.out.above.trans ((Fr.drewN _ _ _).trans hF2.of0)⟩⟩
end Go.Proofs.YtghhakilkmbpdaaDoor
