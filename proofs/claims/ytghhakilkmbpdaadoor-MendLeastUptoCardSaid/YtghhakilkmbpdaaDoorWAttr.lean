/- Walks: reader.attribute. -/
import Derived.Test.YtghhakilkmbpdaaDoorWAttrN
namespace Go.Proofs.YtghhakilkmbpdaaDoor
open Go Go.RowKit

def two (p m : Nat) : Nat → Prop := fun k => k = p ∨ k = m
theorem Fr.two_p {p m : Nat} {w w' : World} (h : Fr (only p) w w') : Fr (two p m) w w' := h.mono fun _ _ h => .inl h
theorem Fr.two_m {p m : Nat} {w w' : World} (h : Fr (only m) w w') : Fr (two p m) w w' := h.mono fun _ _ h => .inr h

def AttrPost (B : Nat) (w : World) (p m : Nat) (r : R) (s : Gm.K) (e : Ending) (w' : World) : Prop :=
  (e = .returned (.tuple #[]) ∧ ∃ n name, r.at_ < n ∧ (name :: s.had).length ≤ n ∧ AtK r.b n { s with st := .valued, attr := name, had := name :: s.had } ∧ Rd B w' p { r with at_ := n } ∧ HadAt w' m (name :: s.had) ∧ Fr (two p m) w w') ∨
  (Halts r.b e ∧ Fr (two p m) w w')

theorem like_of_scan {t p : Gm.Bs} {c : Nat} (h : Gm.nscan [] 2 t = some (p, c)) : Gm.nameLike [] 2 t = true := by
  rw [Gm.nameLike_iff _ _ _ (.inl rfl), h]
  rfl


set_option maxRecDepth 100000 in
set_option maxHeartbeats 4000000 in
theorem attribute_any {B : Nat} {w : World} {p m : Nat} {r : R} (h : Rd B w p r) {s : Gm.K} (hst : s.st = .inTag) (hp : s.pend = []) (hat : AtK r.b r.at_ s) (ho : s.opn = r.o) (hroot : s.root = r.root)
    (hhad : HadAt w m s.had) (hmp : m ≠ p) (hmB : B ≤ m) (hmo : ∀ k, r.ov.ownBlock = some k → k ≠ m) (hhl : s.had.length ≤ r.at_) (hlt : r.at_ < r.b.length) (hx : isIt [32, 9, 10, 13] r.b r.at_ = false ∧ isIt [47] r.b r.at_ = false ∧ isIt [62] r.b r.at_ = false) :
    Calls Tryd.prog 35 #[.pointer (some ⟨p, 0, none⟩), .map (some m)] w (AttrPost B w p m r s) := by
  have hsm := h.small
  have hlc := h.lcap
  have hbc := h.bcap
  obtain ⟨bk, off, hao, hby⟩ : ∃ bk off, r.ao = some ⟨bk, off, none⟩ ∧ ∀ j, j < r.b.length → w.cell? ⟨bk, off + j, none⟩ = some (.int .u8 (r.b.getD j 0).toNat) := by
    rcases h.bytes with e | h
    · exact absurd hlt (by rw [e]; simp)
    · exact h
  have hBA : ∀ W, Fr (two p m) w W → ∀ lo hi, lo ≤ hi → hi ≤ r.b.length → BAt W (some ⟨bk, off + lo, none⟩) ((r.b.drop lo).take (hi - lo)) := by
    intro W hW lo hi h1 h2
    refine .inr ⟨bk, off + lo, rfl, fun j hj => ?_⟩
    have hj' : j < hi - lo := by simp at hj; omega
    have hb := hby (lo + j) (by omega)
    rw [← Nat.add_assoc] at hb
    have hbB : bk < B := h.low _ hao
    rw [hW.cell (lt_of_cell hb) (fun e => by have := h.hp; rcases e with e | e <;> simp only at e <;> omega), hb]
    congr 2
    simp [List.getD, List.getElem?_take_of_lt hj', List.getElem?_drop]
  have hcv : ∀ W, Fr (two p m) w W → ∀ lo hi, lo ≤ hi → hi ≤ r.b.length → ∀ cap, (convert 22 9 (.slice (some ⟨bk, off + lo, none⟩) (hi - lo) cap)).run Tryd.prog W = .ok (.string ⟨((r.b.drop lo).take (hi - lo)).toArray⟩) W := by
    intro W hW lo hi h1 h2 cap
    have := conv_str (hBA W hW lo hi h1 h2) cap
    rw [show ((r.b.drop lo).take (hi - lo)).length = hi - lo by simp; omega] at this
    exact this
  have c0 := h.c0
  have c1 := h.c1
  rw [hao] at c0
  have HH := Lib.hid h
  have HST := Lib.hid hst
  have HP := Lib.hid hp
  have HO := Lib.hid ho
  have HRT := Lib.hid hroot
  have HAT := Lib.hid hat
  have HHad := Lib.hid hhad
  have HMP := Lib.hid hmp
  have HMO := Lib.hid hmo
  have HX := Lib.hid hx
  have HAO := Lib.hid hao
  have HBA := Lib.hid hBA
  have HCV := Lib.hid hcv
  have HLT := Lib.hid hlt
  clear h hst hp hat ho hroot hhad hmp hmo hx hao hby hBA hcv
  have htl : (r.b.drop r.at_).length = r.b.length - r.at_ := by simp
  have hb0 : BAt w (some ⟨bk, off + r.at_, none⟩) (r.b.drop r.at_) := by
    have := HBA.out w (Fr.refl _ _) r.at_ r.b.length (by omega) (Nat.le_refl _)
    rwa [List.take_of_length_le (by simp)] at this
  have hwn := wholeName_n (r.b.drop r.at_) _ htl bk (off + r.at_) (r.cap - r.at_) (by omega) (by omega) (by omega) w HH.out.env hb0
  have HWN := Lib.hid hwn
  have htail : r.b.drop r.at_ ≠ [] := by intro e; rw [e] at htl; simp at htl; omega
  have HTL := Lib.hid htail
  clear hb0 hwn htl htail
  go_enter Tryd.func35, Tryd.ntmps35
  go_wp2_with fail
  refine HWN.out.mono ?_
  rintro e w1 ⟨⟨q, rfl, hq⟩, hf1⟩
  have HF1 := Lib.hid hf1
  clear hf1
  cases hnl : Gm.nameLike [] 2 (r.b.drop r.at_) with
  | true =>
    obtain rfl := hq.2 hnl
    have gq : (((r.b.length - r.at_ : Nat) : Int) == ((r.b.length - r.at_ : Nat) : Int)) = true := by simp
    have hcs := HCV.out w1 HF1.out.of0 r.at_ r.b.length (by omega) (Nat.le_refl _)
    rw [List.take_of_length_le (by simp)] at hcs
    have hun := fun W hW => unlike_any (B := B) (m := m) (had := s.had) (r.b.drop r.at_) HTL.out hnl (by simp; omega) (by omega) W (HH.out.env.fr0 hW) (HHad.out.fr hW (fun h => h))
    have hlike : ∃ s', s.run (r.b.drop r.at_) = some s' ∧ s'.rest = Gm.unlike (r.b.drop r.at_) s.had ++ [61, 34, 34, 47, 62] ++ Gm.closing s.opn ++ Gm.rl s.root := by
      have := Gm.attr_like (r.b.drop r.at_) [] s HST.out HP.out (.inl rfl) (by simpa using HTL.out) (by rw [← Gm.nameLike_iff _ _ _ (.inl rfl)]; exact hnl)
      simpa using this
    have hfin : Halts r.b (stopE (-1) (Gm.unlike (r.b.drop r.at_) s.had ++ [61, 34, 34, 47, 62] ++ Gm.closing r.o ++ Gm.rl r.root)) := by
      obtain ⟨s', e1, e2⟩ := hlike
      have h2 := HAT.out.run (u := r.b.drop r.at_) (v := []) (by simp) e1
      rw [HO.out, HRT.out] at e2
      exact h2.ends (by simp; omega) e2
    have HUN := Lib.hid hun
    have HFIN := Lib.hid hfin
    clear hun hlike hfin hnl hq
    generalize r.b.drop r.at_ = tl at hcs HUN HFIN
    go_wp2_with fail
    refine (HUN.out _ HF1.out).mono ?_
    rintro e w2 ⟨rfl, hl2, hf2⟩
    have HF2 := Lib.hid hf2
    clear hf2 hcs
    generalize Gm.unlike tl s.had = un at *
    have hcat := cat_list
    have hz := size_list un
    go_wp2_with fail
    refine (end_any (HH.out.fr0 (HF1.out.trans HF2.out)) (un ++ [61, 34, 34, 47, 62]) (by simp; omega)).mono ?_
    rintro e w3 ⟨rfl, hf3⟩
    exact ⟨rfl, .inr ⟨HFIN.out, (HF1.out.trans (HF2.out.trans hf3)).of0⟩⟩
  | false =>
    have hqn : ¬ q = r.b.length - r.at_ := fun e => by rw [hq.1 e] at hnl; cases hnl
    have gq : ((q : Int) == ((r.b.length - r.at_ : Nat) : Int)) = false := by rw [beq_eq_false_iff_ne]; omega
    have HNL := Lib.hid hnl
    clear hqn hq hnl
    have hr1 := HH.out.fr0 HF1.out
    have HR1 := Lib.hid hr1
    clear hr1
    go_wp2_with fail
    refine (char_any HR1.out 2 (by omega) [61, 34, 34, 47, 62] (by simp) HLT.out).mono ?_
    rintro e w2 hpost
    unfold CharPost at hpost
    have hg := getD_some HLT.out
    have htk : Gm.Takes s 2 (r.b.getD r.at_ 0) := by
      obtain ⟨x1, x2, x3⟩ := HX.out
      refine Gm.takes_inTag HST.out HP.out ?_ ?_ ?_
      · rw [blank_iff, ← isIt_at hg]; exact x1
      · exact fun e => isIt_not x2 hg (by rw [e]; simp)
      · exact fun e => isIt_not x3 hg (by rw [e]; simp)
    have hch := HAT.out.char HLT.out htk
    have HCH := Lib.hid hch
    clear htk hch hg
    cases hc : Gm.charN 2 [] (r.b.drop r.at_) with
    | short q0 =>
      exfalso
      obtain ⟨h1, h2⟩ := (Gm.charN_spec 2 (r.b.drop r.at_) [] (.inl rfl)).2.2 q0 hc
      rw [List.nil_append] at h1
      subst h1
      rcases h2 with h2 | ⟨h2, h3⟩
      · exact HTL.out h2
      · have := like_of_scan (Gm.nscan_part 2 _ [] h2 h3)
        rw [HNL.out] at this
        cases this
    | bad k =>
      rw [hc] at hpost
      obtain ⟨rfl, hf2⟩ := hpost
      have hw := HCH.out.2.1 k hc
      unfold stopE at hw ⊢
      exact ⟨rfl, .inr ⟨hw, (HF1.out.trans hf2).of0⟩⟩
    | ok q0 =>
      rw [hc] at hpost
      obtain ⟨rfl, hr2, hf2⟩ := hpost
      have hak := HCH.out.1 q0 hc
      obtain ⟨v0, hv0, hsc0⟩ := Gm.scan_char0 hc
      have hq0 := Gm.char_ne hc
      obtain ⟨d1, d2, d3⟩ := drop_len hv0 hq0
      have hq0l : 0 < q0.length := List.length_pos_iff.2 hq0
      have s1st : (s.took q0).st = .attrName ∧ (s.took q0).pend = [] ∧ (s.took q0).attr = q0 ∧ (s.took q0).opn = s.opn ∧ (s.took q0).root = s.root ∧ (s.took q0).had = s.had ∧ (s.took q0).name = s.name := by simp [Gm.K.took, HST.out]
      have HR2 := Lib.hid hr2
      have HF2 := Lib.hid hf2
      have HAK := Lib.hid hak
      have HSC0 := Lib.hid hsc0
      have HV0 := Lib.hid hv0
      have HS1 := Lib.hid s1st
      have HD := Lib.hid (And.intro d2 d3)
      clear hr2 hf2 hak hsc0 hv0 s1st hq0 hc d2 d3
      go_wp2_with fail
      refine (nameRest_any HR2.out [61, 34, 34, 47, 62] (by simp)).mono ?_
      rintro e w3 ⟨n, hn1, hn2, hrun, hcases⟩
      simp only at hn1 hn2 hrun hcases
      obtain ⟨hA, _, hsc1⟩ := hrun.at_ HS1.out.2.1
      have hakn := hA HS1.out.1 HAK.out
      -- the name
      have hname : (r.b.drop r.at_).take (n - r.at_) = q0 ++ (r.b.drop (r.at_ + q0.length)).take (n - (r.at_ + q0.length)) := by
        rw [HV0.out, HD.out.1, List.take_append, List.take_of_length_le (by omega)]
        congr 2
        omega
      have hscn : Gm.nscan [] 2 ((r.b.drop r.at_).take (n - r.at_)) = some ([], 3) := by
        rw [hname, Gm.nscan_append, HSC0.out]
        exact hsc1
      have htd : (r.b.drop r.at_) = (r.b.drop r.at_).take (n - r.at_) ++ r.b.drop n := by
        have := (List.take_append_drop (n - r.at_) (r.b.drop r.at_)).symm
        rw [List.drop_drop, show r.at_ + (n - r.at_) = n by omega] at this
        exact this
      rw [HS1.out.2.2.1, ← hname] at hakn
      rcases hcases with ⟨rfl, hend, hr3, hf3⟩ | ⟨hnlt, hb3, k, hbad, rfl, hf3⟩ | ⟨hnlt, q', hsh, _, _⟩
      · have hnl : n ≠ r.b.length := by
          intro e
          rw [e, List.drop_length, List.append_nil] at htd
          rw [e, ← htd] at hscn
          have := like_of_scan hscn
          rw [HNL.out] at this
          cases this
        have hnlt : n < r.b.length := by omega
        have hb3 : Gm.begins 3 [r.b.getD n 0] = false := hend.resolve_left hnl
        have hatn : r.at_ < n := by omega
        have hcv : ∀ W, Fr (two p m) w W → ∀ cap, (convert 22 9 (.slice (some ⟨bk, off + r.at_, none⟩) (n - r.at_) cap)).run Tryd.prog W = .ok (.string ⟨((r.b.drop r.at_).take (n - r.at_)).toArray⟩) W := fun W hW cap => HCV.out W hW r.at_ n (by omega) hn2 cap
        have hnamel : ((r.b.drop r.at_).take (n - r.at_)).length ≤ 100000000 := by simp; omega
        have HAKN := Lib.hid hakn
        have HB3 := Lib.hid hb3
        have HCV2 := Lib.hid hcv
        have HR3 := Lib.hid hr3
        have HF3 := Lib.hid ((HF1.out.of0.trans HF2.out).trans hf3)
        clear hscn htd hname hsc1 hA hakn hend hnl hb3 hcv hr3 hf3 hrun
        generalize hnm : (r.b.drop r.at_).take (n - r.at_) = nm at HAKN HCV2 hnamel
        clear hnm
        have hcs : ∀ j, (convert 22 9 (.slice (some ⟨bk, off + r.at_, none⟩) (n - r.at_) (r.cap - r.at_))).run Tryd.prog (w3.drewN j) = .ok (.string ⟨nm.toArray⟩) (w3.drewN j) := fun j => HCV2.out _ ((HF3.out.trans (Fr.drewN _ _ _)).two_p) _
        have c0 := HR3.out.c0
        have c1 := HR3.out.c1
        simp only at c0 c1
        rw [HAO.out] at c0
        have hlo : r.at_ ≤ n := by omega
        go_wp2_with fail
        go_quiet (fail)
        rename Nat => jj
        have hhw : HadAt (w3.drewN jj) m s.had := HHad.out.fr ((HF3.out.trans (Fr.drewN _ _ jj))) (fun e => HMP.out e)
        have hlk := had_lookup hhw nm (by unfold maxLen; omega)
        have hg := getD_some hnlt
        have hend := Gm.attr_end (s := { s.took q0 with attr := nm }) HS1.out.1 HS1.out.2.1 HB3.out
        clear c0 c1 hcs
        by_cases hmem : nm ∈ s.had
        · rw [if_pos hmem] at hlk
          have hw := HAKN.out.wrong hg (hend.trans (if_pos (by rw [HS1.out.2.2.2.2.2.1]; exact hmem)))
          have c1 := (HR3.out.fr0 (Fr.drewN _ w3 jj)).c1
          have HW := Lib.hid hw
          clear hw hhw hmem hend hg
          go_wp2_with fail
          refine (wrong_any _ _).mono ?_
          rintro e w4 ⟨rfl, hf4⟩
          exact ⟨rfl, .inr ⟨HW.out, (HF3.out.trans ((Fr.drewN _ _ _).trans hf4).of0).two_p⟩⟩
        · rw [if_neg hmem] at hlk
          obtain ⟨w5, hupd, hh5, hf5⟩ := had_put hhw (by unfold maxLen; omega) nm (by unfold maxLen; omega)
          have hr5 : Rd B w5 p { r with at_ := n } := (HR3.out.fr0 (Fr.drewN _ w3 jj)).fr hf5 (fun k hk e => by unfold only at e; omega) (fun e => HMP.out e.symm) (fun k hk e => HMO.out k hk e)
          have hf05 : Fr (two p m) w w5 := (HF3.out.trans (Fr.drewN _ _ jj)).two_p.trans hf5.two_m
          have HR5 := Lib.hid hr5
          have HF5 := Lib.hid hf05
          have HH5 := Lib.hid hh5
          have HM := Lib.hid hmem
          clear hr5 hf05 hf5 hh5 hmem hhw hend hg
          go_wp2_with fail
          refine (blank_any HR5.out).mono ?_
          rintro e w6 ⟨n2, b1, b2, b3, b4, rfl, hr6, hf6⟩
          simp only at b1 b2 b3 b4
          obtain ⟨s2, t1, t2, t3, t4⟩ := attr_blank (s := { s.took q0 with attr := nm }) HS1.out.1 HS1.out.2.1 HAKN.out hnlt HB3.out (by rw [HS1.out.2.2.2.2.2.1]; exact HM.out) b1 b3 b4
          have HR6 := Lib.hid hr6
          have HF6 := Lib.hid hf6
          have HT1 := Lib.hid t1
          have HT2 := Lib.hid t2
          have HT3 := Lib.hid t3
          have HT4 := Lib.hid t4
          clear hr6 hf6 t1 t2 t3 t4 b3 b4
          by_cases he2 : n2 = r.b.length
          · have hfin : Halts r.b (stopE (-1) ([61, 34, 34, 47, 62] ++ Gm.closing r.o ++ Gm.rl r.root)) := by
              refine HT1.out.ends he2 ((HT2.out he2).trans ?_)
              simp only [HS1.out.2.2.2.1, HS1.out.2.2.2.2.1, HO.out, HRT.out]
            have HFIN := Lib.hid hfin
            have HE2 := Lib.hid he2
            clear hfin he2
            go_wp2_with fail
            refine (must_end HR6.out 61 [61, 34, 34, 47, 62] (by simp) HE2.out).mono ?_
            rintro e w7 ⟨rfl, hf7⟩
            exact ⟨rfl, .inr ⟨HFIN.out, HF5.out.trans (HF6.out.trans hf7.of0).two_p⟩⟩
          · have hlt2 : n2 < r.b.length := by omega
            have hg2 := getD_some hlt2
            have HG2 := Lib.hid hg2
            clear he2 hg2
            by_cases h61 : r.b.getD n2 0 = 61
            · have hs3 : AtK r.b (n2 + 1) { s with st := .equals, attr := nm, had := nm :: s.had } := by
                have hx61 : r.b[n2]? = some 61 := by rw [HG2.out, h61]
                have := HT1.out.step hx61 (HT4.out hx61)
                obtain ⟨z1, z2, z3, z4, z5, z6, z7⟩ := HS1.out
                simp only [z4, z5, z6, z2, z7] at this
                have hp0 := HP.out
                simpa [hp0] using this
              have HS3 := Lib.hid hs3
              have H61 := Lib.hid h61
              have HLT2 := Lib.hid hlt2
              clear hs3 h61 hlt2
              go_wp2_with fail
              refine (must_ok HR6.out 61 [61, 34, 34, 47, 62] HLT2.out H61.out).mono ?_
              rintro e w7 ⟨rfl, hr7, hf7⟩
              simp only at hr7
              have HR7 := Lib.hid hr7
              have HF7 := Lib.hid (HF5.out.trans ((HF6.out.trans hf7).two_p))
              have HH7 := Lib.hid (HH5.out.fr (HF6.out.trans hf7) (fun e => HMP.out e))
              clear hr7 hf7
              go_wp2_with fail
              refine (blank_any HR7.out).mono ?_
              rintro e w8 ⟨n3, b1, b2, b3, b4, rfl, hr8, hf8⟩
              simp only at b1 b2 b3 b4
              have ha8 : AtK r.b n3 { s with st := .equals, attr := nm, had := nm :: s.had } := HS3.out.blanks (fun x hx => by rw [Gm.equals_step (s := { s with st := .equals, attr := nm, had := nm :: s.had }) rfl HP.out, if_pos hx]) b1 b3
              have HR8 := Lib.hid hr8
              have HF8 := Lib.hid (HF7.out.trans hf8.two_p)
              have HH8 := Lib.hid (HH7.out.fr hf8 (fun e => HMP.out e))
              have HA8 := Lib.hid ha8
              have HB4 := Lib.hid b4
              clear hr8 hf8 b3 b4 ha8
              by_cases he3 : n3 = r.b.length
              · have hfin : Halts r.b (stopE (-1) ([34, 34, 47, 62] ++ Gm.closing r.o ++ Gm.rl r.root)) := by
                  refine HA8.out.ends he3 ((Gm.equals_rest (s := { s with st := .equals, attr := nm, had := nm :: s.had }) rfl HP.out).trans ?_)
                  simp only [HO.out, HRT.out]
                have HFIN := Lib.hid hfin
                have HE3 := Lib.hid he3
                clear hfin he3
                go_wp2_with fail
                refine (ended_yes HR8.out HE3.out).mono ?_
                rintro e w9 ⟨rfl, j9, rfl⟩
                go_wp2_with fail
                refine (end_any (HR8.out.fr0 (Fr.drewN _ _ _)) [34, 34, 47, 62] (by simp)).mono ?_
                rintro e w10 ⟨rfl, hf10⟩
                exact ⟨rfl, .inr ⟨HFIN.out, HF8.out.trans ((Fr.drewN _ _ _).trans hf10).of0⟩⟩
              · have hlt3 : n3 < r.b.length := by omega
                have hg3 := getD_some hlt3
                have HE3 := Lib.hid he3
                have HG3 := Lib.hid hg3
                have HLT3 := Lib.hid hlt3
                have hnb : Gm.blank (r.b.getD n3 0) = false := by rw [blank_iff, ← isIt_at hg3]; exact HB4.out
                clear he3 hg3 hlt3
                generalize hy : r.b.getD n3 0 = y at HG3 hnb
                cases hi : isIt [34, 39] r.b n3 with
                | false =>
                  have hno := isIt_not hi HG3.out
                  have hw := HA8.out.wrong HG3.out (by rw [Gm.equals_step (s := { s with st := .equals, attr := nm, had := nm :: s.had }) rfl HP.out, hnb, if_neg (by simp), if_neg (by simpa using hno)])
                  have HW := Lib.hid hw
                  have HI := Lib.hid hi
                  clear hw hi hno hnb
                  go_wp2_with fail
                  refine (ended_no HR8.out HE3.out).mono ?_
                  rintro e w9 ⟨rfl, j9, rfl⟩
                  go_wp2_with fail
                  refine (is_any (HR8.out.fr0 (Fr.drewN _ _ _)) [34, 39]).mono ?_
                  simp only [HI.out]
                  rintro e w10 ⟨rfl, j10, rfl⟩
                  have c1 := HR8.out.c1
                  simp only at c1
                  go_wp2_with fail
                  refine (wrong_any _ _).mono ?_
                  rintro e w11 ⟨rfl, hf11⟩
                  exact ⟨rfl, .inr ⟨HW.out, HF8.out.trans ((Fr.drewN _ _ _).trans hf11).of0⟩⟩
                | true =>
                  have hyq : y = 34 ∨ y = 39 := by
                    rw [isIt_at HG3.out] at hi
                    simpa using hi
                  have hak : AtK r.b (n3 + 1) { s with st := .value y, attr := nm, had := nm :: s.had } := HA8.out.step HG3.out (by rw [Gm.equals_step (s := { s with st := .equals, attr := nm, had := nm :: s.had }) rfl HP.out, hnb, if_neg (by simp), if_pos hyq])
                  have hcv1 : ∀ W, Fr (two p m) w W → (convert 22 9 (.slice (some ⟨bk, off + n3, none⟩) 1 (r.cap - n3))).run Tryd.prog W = .ok (.string ⟨#[y]⟩) W := by
                    intro W hW
                    have := HCV.out W hW n3 (n3 + 1) (by omega) HLT3.out (r.cap - n3)
                    rw [show n3 + 1 - n3 = 1 by omega, take_one HLT3.out, hy] at this
                    exact this
                  have HCV1 := Lib.hid hcv1
                  have HI := Lib.hid hi
                  have HAK3 := Lib.hid hak
                  have HYQ := Lib.hid hyq
                  clear hi hak hnb hyq hcv1
                  go_wp2_with fail
                  refine (ended_no HR8.out HE3.out).mono ?_
                  rintro e w9 ⟨rfl, j9, rfl⟩
                  go_wp2_with fail
                  refine (is_any (HR8.out.fr0 (Fr.drewN _ _ _)) [34, 39]).mono ?_
                  simp only [HI.out]
                  rintro e w10 ⟨rfl, j10, rfl⟩
                  go_wp2_with fail
                  refine wp_grown ?_
                  intro wa hwa
                  have HWA := Lib.hid hwa
                  have hcs : ∀ j, (convert 22 9 (.slice (some ⟨bk, off + n3, none⟩) 1 (r.cap - n3))).run Tryd.prog (wa.drewN j) = .ok (.string ⟨#[y]⟩) (wa.drewN j) := fun j => HCV1.out _ (HF8.out.trans (hwa.trans (Fr.drewN _ _ _)).of0)
                  have c0 := (HR8.out.fr0 hwa).c0
                  have c1 := (HR8.out.fr0 hwa).c1
                  have f1 := (HR8.out.fr0 hwa).fz 1
                  have hl3 : n3 < r.b.length := HLT3.out
                  simp only at c0 c1
                  rw [HAO.out] at c0
                  clear hwa
                  go_quiet (fail)
                  go_wp2_with fail
                  clear c0 c1 f1 hcs
                  have hcat := cat_list
                  go_loopg [] (r.b.length - (n3 + 1)) (fun k wr => ∃ n4, n3 + 1 ≤ n4 ∧ n4 ≤ r.b.length ∧ k = r.b.length - n4 ∧ AtK r.b n4 { s with st := .value y, attr := nm, had := nm :: s.had } ∧ Rd B wr p { r with at_ := n4 } ∧ HadAt wr m (nm :: s.had) ∧ Fr (two p m) w wr)
                  case atStart =>
                    exact ⟨n3 + 1, Nat.le_refl _, hl3, rfl, HAK3.out, ((HR8.out.fr0 HWA.out).fr0 (Fr.drewN _ _ _)).moved (n3 + 1) (by simp) hl3,
                      HH8.out.fr (S := only p) ((HWA.out.of0.trans (Fr.drewN _ _ _)).trans (Fr.setCell _ _ _ (.inl rfl))) (fun e => HMP.out e), (HF8.out.trans (HWA.out.of0.trans (Fr.drewN _ _ _))).trans (Fr.setCell _ _ _ (.inl (.inl rfl)))⟩
                  case round =>
                    obtain ⟨n4, e1, e2, hk, ha4, hr4, hh4, hf4⟩ := hrel
                    rename World => wl
                    have HK := Lib.hid hk
                    have HA4 := Lib.hid ha4
                    have HR4 := Lib.hid hr4
                    have HH4 := Lib.hid hh4
                    have HF4 := Lib.hid hf4
                    clear hk ha4 hr4 hh4 hf4
                    by_cases he4 : n4 = r.b.length
                    · have hiq : isIt [y] r.b n4 = false := by rw [he4]; simp [isIt]
                      have hfin : Halts r.b (stopE (-1) ([y, 47, 62] ++ Gm.closing r.o ++ Gm.rl r.root)) := by
                        refine HA4.out.ends he4 ((Gm.value_rest (s := { s with st := .value y, attr := nm, had := nm :: s.had }) rfl HP.out).trans ?_)
                        simp only [HO.out, HRT.out]
                      have HFIN := Lib.hid hfin
                      have HE4 := Lib.hid he4
                      have HIQ := Lib.hid hiq
                      clear hfin he4 hiq
                      go_wp2_with fail
                      refine (is_any HR4.out [y]).mono ?_
                      simp only [HIQ.out]
                      rintro e wb ⟨rfl, jb, rfl⟩
                      go_wp2_with fail
                      refine (ended_yes (HR4.out.fr0 (Fr.drewN _ _ _)) HE4.out).mono ?_
                      rintro e wc ⟨rfl, jc, rfl⟩
                      go_wp2_with fail
                      refine (end_any ((HR4.out.fr0 (Fr.drewN _ _ _))) [y, 47, 62] (by simp)).mono ?_
                      rintro e wd ⟨rfl, hfd⟩
                      exact ⟨rfl, .inr ⟨HFIN.out, HF4.out.trans ((Fr.drewN _ _ _).trans hfd).of0⟩⟩
                    · have hlt4 : n4 < r.b.length := by omega
                      have hg4 := getD_some hlt4
                      have HE4 := Lib.hid he4
                      have HLT4 := Lib.hid hlt4
                      have hch0 := fun c (ht : Gm.Takes { s with st := .value y, attr := nm, had := nm :: s.had } c (r.b.getD n4 0)) => HA4.out.char hlt4 ht
                      have HCH4 := Lib.hid hch0
                      clear he4 hch0
                      generalize hz : r.b.getD n4 0 = z at hg4 HCH4
                      have HG4 := Lib.hid hg4
                      clear hg4 hz
                      have hdec : ∀ c : UInt8, isIt [c] r.b n4 = decide (z = c) := fun c => by rw [isIt_at HG4.out]; simp
                      by_cases hzy : z = y
                      · subst hzy
                        have hiq : isIt [z] r.b n4 = true := by rw [hdec]; simp
                        have hak : AtK r.b (n4 + 1) { s with st := .valued, attr := nm, had := nm :: s.had } := HA4.out.step HG4.out (Gm.value_quote (s := { s with st := .value z, attr := nm, had := nm :: s.had }) rfl HP.out HYQ.out)
                        have HIQ := Lib.hid hiq
                        have HAK4 := Lib.hid hak
                        clear hiq hak hdec
                        go_wp2_with fail
                        refine (is_any HR4.out [z]).mono ?_
                        simp only [HIQ.out]
                        rintro e wb ⟨rfl, jb, rfl⟩
                        have c1 := (HR4.out.fr0 (Fr.drewN _ wl jb)).c1
                        have f1 := (HR4.out.fr0 (Fr.drewN _ wl jb)).fz 1
                        simp only at c1
                        go_wp2
                        go_end0
                        refine .inl ⟨rfl, n4 + 1, nm, by omega, by simp; omega, HAK4.out, (HR4.out.fr0 (Fr.drewN _ _ _)).moved (n4 + 1) (by simp) HLT4.out, HH4.out.fr (S := only p) ((Fr.drewN _ _ _).trans (Fr.setCell _ _ _ (.inl rfl))) (fun e => HMP.out e), HF4.out.trans ((Fr.drewN _ _ _).trans (Fr.setCell _ _ _ (.inl (.inl rfl))))⟩
                      · have hiq : isIt [y] r.b n4 = false := by rw [hdec]; simpa using hzy
                        have HIQ := Lib.hid hiq
                        clear hiq
                        by_cases hz60 : z = 60
                        · subst hz60
                          have hi60 : isIt [60] r.b n4 = true := by rw [hdec]; simp
                          have hw := HA4.out.wrong HG4.out (Gm.value_less (s := { s with st := .value y, attr := nm, had := nm :: s.had }) rfl HP.out HYQ.out)
                          have HI60 := Lib.hid hi60
                          have HW := Lib.hid hw
                          clear hi60 hw hdec hzy
                          go_wp2_with fail
                          refine (is_any HR4.out [y]).mono ?_
                          simp only [HIQ.out]
                          rintro e wb ⟨rfl, jb, rfl⟩
                          go_wp2_with fail
                          refine (ended_no (HR4.out.fr0 (Fr.drewN _ _ _)) HE4.out).mono ?_
                          rintro e wc ⟨rfl, jc, rfl⟩
                          go_wp2_with fail
                          refine (is_any (HR4.out.fr0 (Fr.drewN _ _ _)) [60]).mono ?_
                          simp only [HI60.out]
                          rintro e wd ⟨rfl, jd, rfl⟩
                          have c1 := HR4.out.c1
                          simp only at c1
                          go_wp2_with fail
                          refine (wrong_any _ _).mono ?_
                          rintro e we ⟨rfl, hfe⟩
                          exact ⟨rfl, .inr ⟨HW.out, HF4.out.trans ((Fr.drewN _ _ _).trans hfe).of0⟩⟩
                        · have hi60 : isIt [60] r.b n4 = false := by rw [hdec]; simpa using hz60
                          have HI60 := Lib.hid hi60
                          clear hi60
                          by_cases hz38 : z = 38
                          · subst hz38
                            have hi38 : isIt [38] r.b n4 = true := by rw [hdec]; simp
                            have hak : AtK r.b (n4 + 1) { s with st := .named (some y) [], attr := nm, had := nm :: s.had } := HA4.out.step HG4.out (Gm.value_amp (s := { s with st := .value y, attr := nm, had := nm :: s.had }) rfl HP.out HYQ.out)
                            have HI38 := Lib.hid hi38
                            have HAK4 := Lib.hid hak
                            clear hi38 hak hdec hzy hz60
                            go_wp2_with fail
                            refine (is_any HR4.out [y]).mono ?_
                            simp only [HIQ.out]
                            rintro e wb ⟨rfl, jb, rfl⟩
                            go_wp2_with fail
                            refine (ended_no (HR4.out.fr0 (Fr.drewN _ _ _)) HE4.out).mono ?_
                            rintro e wc ⟨rfl, jc, rfl⟩
                            go_wp2_with fail
                            refine (is_any (HR4.out.fr0 (Fr.drewN _ _ _)) [60]).mono ?_
                            simp only [HI60.out]
                            rintro e wd ⟨rfl, jd, rfl⟩
                            go_wp2_with fail
                            refine (is_any (HR4.out.fr0 (Fr.drewN _ _ _)) [38]).mono ?_
                            simp only [HI38.out]
                            rintro e we ⟨rfl, je, rfl⟩
                            go_wp2_with fail
                            refine (reference_any (s := { s with st := .value y, attr := nm, had := nm :: s.had }) (HR4.out.fr0 (Fr.drewN _ _ _)) (some y) HP.out HLT4.out HAK4.out HO.out HRT.out).mono ?_
                            rintro e wg hgo
                            rcases hgo with ⟨rfl, n5, g1, g2, g3, g4⟩ | ⟨g1, g2⟩
                            · have G1 : n4 < n5 := g1
                              have hlt5 := g3.at_le
                              have HG := Lib.hid (And.intro g2 (And.intro g3 g4))
                              simp only at hlt5
                              clear g1 g2 g3 g4
                              go_wp2
                              go_roundg (r.b.length - n5)
                              case measure => rw [HK.out]; omega
                              case rel => exact ⟨n5, by omega, hlt5, rfl, HG.out.1, HG.out.2.1, HH4.out.fr ((Fr.drewN _ _ _).trans HG.out.2.2) (fun e => HMP.out e), HF4.out.trans ((Fr.drewN _ _ _).trans HG.out.2.2).two_p⟩
                            · have _t := True.intro
                              obtain ⟨a1, a2, rfl⟩ := g1.form
                              unfold stopE
                              exact ⟨rfl, .inr ⟨g1, HF4.out.trans ((Fr.drewN _ _ _).trans g2).two_p⟩⟩
                          · have hi38 : isIt [38] r.b n4 = false := by rw [hdec]; simpa using hz38
                            have htk := Gm.value_takes (s := { s with st := .value y, attr := nm, had := nm :: s.had }) rfl HP.out hzy hz60 hz38
                            have HTK := Lib.hid (HCH4.out 0 htk)
                            have HI38 := Lib.hid hi38
                            clear hi38 htk hdec hzy hz60 hz38
                            go_wp2_with fail
                            refine (is_any HR4.out [y]).mono ?_
                            simp only [HIQ.out]
                            rintro e wb ⟨rfl, jb, rfl⟩
                            go_wp2_with fail
                            refine (ended_no (HR4.out.fr0 (Fr.drewN _ _ _)) HE4.out).mono ?_
                            rintro e wc ⟨rfl, jc, rfl⟩
                            go_wp2_with fail
                            refine (is_any (HR4.out.fr0 (Fr.drewN _ _ _)) [60]).mono ?_
                            simp only [HI60.out]
                            rintro e wd ⟨rfl, jd, rfl⟩
                            go_wp2_with fail
                            refine (is_any (HR4.out.fr0 (Fr.drewN _ _ _)) [38]).mono ?_
                            simp only [HI38.out]
                            rintro e we ⟨rfl, je, rfl⟩
                            go_wp2_with fail
                            refine (char_any (HR4.out.fr0 (Fr.drewN _ _ _)) 0 (by omega) [y, 47, 62] (by simp) HLT4.out).mono ?_
                            rintro e wg hpost
                            unfold CharPost at hpost
                            simp only at hpost
                            cases hch : Gm.charN 0 [] (r.b.drop n4) with
                            | ok q5 =>
                              rw [hch] at hpost
                              obtain ⟨rfl, hR5, hF5⟩ := hpost
                              have hq5 := List.length_pos_iff.2 (Gm.char_ne hch)
                              have hlt5 := hR5.at_le
                              simp only at hlt5
                              have hak := HTK.out.1 q5 hch
                              rw [Gm.value_took (s := { s with st := .value y, attr := nm, had := nm :: s.had }) rfl HP.out] at hak
                              have HG := Lib.hid (And.intro hak (And.intro hR5 hF5))
                              clear hak hR5 hF5 hch
                              go_wp2
                              go_roundg (r.b.length - (n4 + q5.length))
                              case measure => rw [HK.out]; omega
                              case rel => exact ⟨n4 + q5.length, by omega, hlt5, rfl, HG.out.1, HG.out.2.1, HH4.out.fr ((Fr.drewN _ _ _).trans HG.out.2.2) (fun e => HMP.out e), HF4.out.trans ((Fr.drewN _ _ _).trans HG.out.2.2).two_p⟩
                            | bad k5 =>
                              rw [hch] at hpost
                              obtain ⟨rfl, hF5⟩ := hpost
                              have hw := HTK.out.2.1 k5 hch
                              unfold stopE at hw ⊢
                              exact ⟨rfl, .inr ⟨hw, HF4.out.trans ((Fr.drewN _ _ _).trans hF5).of0⟩⟩
                            | short q5 =>
                              rw [hch] at hpost
                              obtain ⟨rfl, hF5⟩ := hpost
                              obtain ⟨hrun, hqn⟩ := HTK.out.2.2 q5 hch
                              have hw : Halts r.b (stopE (-1) (Gm.compl 0 q5 ++ [y, 47, 62] ++ Gm.closing r.o ++ (if !r.root then [60, 65, 47, 62] else []))) := by
                                refine .inr ⟨_, hrun, ?_⟩
                                rw [Gm.value_cut (s := { s with st := .value y, attr := nm, had := nm :: s.had }) rfl hqn]
                                simp only [HO.out, HRT.out]
                                rfl
                              unfold stopE at hw ⊢
                              exact ⟨rfl, .inr ⟨hw, HF4.out.trans ((Fr.drewN _ _ _).trans hF5).of0⟩⟩
            · have hw := HT1.out.wrong HG2.out (HT3.out _ HG2.out h61)
              have HW := Lib.hid hw
              have H61 := Lib.hid h61
              have HLT2 := Lib.hid hlt2
              clear hw h61 hlt2
              go_wp2_with fail
              refine (must_bad HR6.out 61 [61, 34, 34, 47, 62] HLT2.out H61.out).mono ?_
              rintro e w7 ⟨rfl, hf7⟩
              exact ⟨rfl, .inr ⟨HW.out, HF5.out.trans (HF6.out.trans hf7.of0).two_p⟩⟩
      · have hw := (hakn.char hnlt (Gm.takes_attr (s := { s.took q0 with attr := (r.b.drop r.at_).take (n - r.at_) }) (.inl HS1.out.1) HS1.out.2.1 hb3)).2.1 k hbad
        unfold stopE at hw ⊢
        exact ⟨rfl, .inr ⟨hw, ((HF1.out.of0.trans HF2.out).trans hf3).two_p⟩⟩
      · exfalso
        obtain ⟨h1, h2⟩ := (Gm.charN_spec 3 (r.b.drop n) [] (.inl rfl)).2.2 q' hsh
        rw [List.nil_append] at h1
        subst h1
        have hs3 : ∃ z, Gm.nscan [] 3 (r.b.drop n) = some (z, 3) := by
          rcases h2 with h2 | ⟨h2, h3⟩
          · exact ⟨[], by rw [h2]; rfl⟩
          · exact ⟨_, Gm.nscan_part 3 _ [] h2 h3⟩
        obtain ⟨z, hz⟩ := hs3
        have : Gm.nscan [] 2 (r.b.drop r.at_) = some (z, 3) := by
          rw [htd, Gm.nscan_append, hscn]
          exact hz
        have := like_of_scan this
        rw [HNL.out] at this
        cases this
end Go.Proofs.YtghhakilkmbpdaaDoor
