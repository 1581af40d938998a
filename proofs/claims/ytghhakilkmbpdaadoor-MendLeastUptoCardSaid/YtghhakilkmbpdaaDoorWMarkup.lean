/- Walks: reader.markup. -/
import Derived.Test.YtghhakilkmbpdaaDoorWStartTag
namespace Gm
theorem less_bang {s : K} (hst : s.st = .less) (hp : s.pend = []) : s.step 33 = some { s with st := .bang } := by
  rw [step_ascii (by rw [hst]; simp) hp (by decide)]
  simp [K.ascii, hst]
theorem less_slash {s : K} (hst : s.st = .less) (hp : s.pend = []) {nm : Bs} {o : List Bs} (ho : s.opn = nm :: o) : s.step 47 = some { s with st := .endName nm, opn := o } := by
  rw [step_ascii (by rw [hst]; simp) hp (by decide)]
  simp [K.ascii, hst, ho]
theorem less_none {s : K} (hst : s.st = .less) (hp : s.pend = []) (ho : s.opn = []) (hr : s.root = true) {x : UInt8} (hx : x ≠ 33) : s.step x = none := by
  by_cases hx8 : x.toNat < 128
  · rw [step_ascii (by rw [hst]; simp) hp hx8]
    simp [K.ascii, hst, ho, hr, hx]
  · rw [step_pend (by rw [hst]; simp) (by simp [hx8])]
    simp [K.cls, hst, ho, hr]
theorem less_rest_root {s : K} (hst : s.st = .less) (hp : s.pend = []) (ho : s.opn = []) (hr : s.root = true) : s.rest = [33, 45, 45, 45, 45, 62] := by
  simp [K.rest, K.within, K.left, K.rootless, hst, hp, ho, hr, closing]
theorem less_rest_new {s : K} (hst : s.st = .less) (hp : s.pend = []) (ho : s.opn = []) (hr : s.root = false) : s.rest = [65, 47, 62] := by
  simp [K.rest, K.within, K.left, K.rootless, hst, hp, ho, hr, closing]
theorem between_less {s : K} {m : Nat} (hst : s.st = .between m) (hp : s.pend = []) : s.step 60 = some { s with st := .less } := by
  rw [step_ascii (by rw [hst]; simp) hp (by decide)]
  simp [K.ascii, hst]
end Gm
namespace Go.Proofs.YtghhakilkmbpdaaDoor
open Go Go.RowKit

theorem Goes.m {B : Nat} {w w0 w' : World} {p : Nat} {r r0 : R} {s' : Gm.K} {e : Ending} (h : Goes B w p r s' e w') (hst : s'.st = .between 0) (hp : s'.pend = []) (ho : s'.opn = r.o) (hr : s'.root = r.root)
    (hb : r0.b = r.b) (h0 : r = { r0 with at_ := r.at_ }) (hlt : r0.at_ ≤ r.at_) (hf : Fr (above p) w0 w) : MPost B w0 p r0 e w' := by
  rcases h with ⟨he, n, h1, h2, h3, h4⟩ | ⟨h1, h2⟩
  · refine .inl ⟨he, n, s', r.ov, by omega, by rw [hb]; exact h2, hst, hp, ?_, hf.trans h4.above⟩
    rw [ho, hr]
    rw [h0] at h3 ⊢
    exact h3
  · exact .inr ⟨by rw [hb]; exact h1, hf.trans h2.above⟩
theorem PopPost.m {B : Nat} {w w0 w' : World} {p : Nat} {r r0 : R} {o : List Gm.Bs} {s' : Gm.K} {e : Ending} (h : PopPost B w p r o s' e w') (hst : s'.st = .between 0) (hp : s'.pend = []) (ho : s'.opn = o) (hr : s'.root = r.root)
    (hb : r0.b = r.b) (h0 : r = { r0 with at_ := r.at_ }) (hlt : r0.at_ ≤ r.at_) (hf : Fr (above p) w0 w) : MPost B w0 p r0 e w' := by
  rcases h with ⟨he, n, v, h1, h2, h3, h4⟩ | ⟨h1, h2⟩
  · refine .inl ⟨he, n, s', v, by omega, by rw [hb]; exact h2, hst, hp, ?_, hf.trans h4.above⟩
    rw [ho, hr]
    rw [h0] at h3 ⊢
    exact h3
  · exact .inr ⟨by rw [hb]; exact h1, hf.trans h2.above⟩
theorem MPost.m {B : Nat} {w w0 w' : World} {p : Nat} {r r0 : R} {e : Ending} (h : MPost B w p r e w') (hb : r0.b = r.b) (h0 : ∃ a rt, r = { r0 with at_ := a, root := rt }) (hlt : r0.at_ ≤ r.at_) (hf : Fr (above p) w0 w) : MPost B w0 p r0 e w' := by
  obtain ⟨a, rt, h0⟩ := h0
  rcases h with ⟨he, n, s', v, h1, h2, h3, h4, h5, h6⟩ | ⟨h1, h2⟩
  · refine .inl ⟨he, n, s', v, by omega, by rw [hb]; exact h2, h3, h4, ?_, hf.trans h6⟩
    rw [h0] at h5
    exact h5
  · exact .inr ⟨by rw [hb]; exact h1, hf.trans h2⟩

theorem AtK.ok {b : Gm.Bs} {n : Nat} {s : Gm.K} (h : AtK b n s) : s.ok := (Gm.run_least _ _ _ Gm.ok_init h.2).1



set_option maxRecDepth 100000 in
set_option maxHeartbeats 4000000 in
theorem markup_out {B : Nat} {w : World} {p : Nat} {r : R} (h : Rd B w p r) {s : Gm.K} {m : Nat} (hst : s.st = .between m) (hp : s.pend = []) (hat : AtK r.b r.at_ s) (ho : s.opn = r.o) (hroot : s.root = r.root) (hx : r.b[r.at_]? = some 60) (hro : r.o = []) :
    Calls Tryd.prog 21 #[.pointer (some ⟨p, 0, none⟩)] w (MPost B w p r) := by
  have hlt : r.at_ < r.b.length := (List.getElem?_eq_some_iff.1 hx).1
  have hl := hat.step hx (Gm.between_less hst hp)
  have hsm := h.small
  have c1 := h.c1
  have c2 := h.c2
  have f1 := h.fz 1
  obtain ⟨ao, capo, hov, _⟩ := h.ov_slice
  rw [hov, hro] at c2
  simp only [List.length_nil] at c2
  have hmv : Rd B (w.setCell ⟨p, 1, none⟩ (.int .i64 (r.at_ + 1 : Nat))) p { r with at_ := r.at_ + 1 } := h.moved (r.at_ + 1) (by omega) hlt
  have hol := h.olen
  have hle : r.at_ ≤ 4194304 := by omega
  have HMV := Lib.hid hmv
  have HO := Lib.hid ho
  have HRO := Lib.hid hro
  have HRT := Lib.hid hroot
  have HL := Lib.hid hl
  have HLT := Lib.hid hlt
  have HP := Lib.hid hp
  have HOL := Lib.hid hol
  have HON := Lib.hid (ho.trans hro)
  clear h hst hat ho hroot hx hro hov hl hlt hmv hp hol
  go_enter Tryd.func21, Tryd.ntmps21
  go_wp2_with fail
  refine calls_gen (fun W => Rd B W p { r with at_ := r.at_ + 1 } ∧ Fr (above p) w W) ⟨HMV.out, Fr.setCell _ _ _ (.inl (Nat.le_refl _))⟩ ?_
  clear c1 c2 f1
  rintro W ⟨hr1, hf1⟩
  have HR1 := Lib.hid hr1
  have HF1 := Lib.hid hf1
  clear hr1 hf1
  by_cases hend : r.at_ + 1 = r.b.length
  · have HE := Lib.hid hend
    clear hend
    refine (ended_yes HR1.out HE.out).mono ?_
    rintro e w1 ⟨rfl, q, rfl⟩
    have c3 := HR1.out.c3
    have f3 := HR1.out.fz 3
    simp only at c3
    cases hrt : r.root with
    | true =>
      have hw : Halts r.b (stopE (-1) ([33, 45, 45, 45, 45, 62] ++ Gm.closing r.o ++ (if !r.root then [60, 65, 47, 62] else []))) := by
        refine HL.out.ends HE.out ?_
        rw [Gm.less_rest_root (s := { s with st := .less }) rfl HP.out HON.out (HRT.out.trans hrt), HRO.out, hrt]
        rfl
      rw [hrt] at c3
      have HRR := Lib.hid hrt
      have HW := Lib.hid hw
      clear hrt hw
      go_wp2_with fail
      refine (end_any (HR1.out.fr0 (Fr.drewN _ _ _)) [33, 45, 45, 45, 45, 62] (by simp)).mono ?_
      rintro e w2 ⟨rfl, hf2⟩
      have hw := HW.out
      unfold stopE at hw ⊢
      exact ⟨rfl, .inr ⟨hw, HF1.out.trans ((Fr.drewN _ _ _).trans hf2.of0)⟩⟩
    | false =>
      have hw : Halts r.b (stopE (-1) ([65, 47, 62] ++ Gm.closing r.o ++ (if !true then [60, 65, 47, 62] else []))) := by
        refine HL.out.ends HE.out ?_
        rw [Gm.less_rest_new (s := { s with st := .less }) rfl HP.out HON.out (HRT.out.trans hrt), HRO.out]
        rfl
      rw [hrt] at c3
      have HRR := Lib.hid hrt
      have HW := Lib.hid hw
      clear hrt hw
      go_wp2_with fail
      refine (end_any ((HR1.out.fr0 (Fr.drewN _ _ _)).rooted) [65, 47, 62] (by simp)).mono ?_
      rintro e w2 ⟨rfl, hf2⟩
      have hw := HW.out
      unfold stopE at hw ⊢
      exact ⟨rfl, .inr ⟨hw, (HF1.out.trans (Fr.drewN _ _ _)).trans ((Fr.setCell (S := above p) _ _ _ (.inl (Nat.le_refl _))).trans hf2.of0)⟩⟩
  · have hlt1 : r.at_ + 1 < r.b.length := by have := HLT.out; omega
    have HE := Lib.hid hend
    have HLT1 := Lib.hid hlt1
    clear hend hlt1
    refine (ended_no HR1.out HE.out).mono ?_
    rintro e w1 ⟨rfl, q, rfl⟩
    cases hi : isIt [33] r.b (r.at_ + 1) with
    | true =>
      have HI := Lib.hid hi
      have c1 := HR1.out.c1
      have f1 := HR1.out.fz 1
      simp only at c1
      have hl2 : AtK r.b (r.at_ + 1 + 1) { s with st := .bang } := HL.out.step (isIt_get hi) (Gm.less_bang (s := { s with st := .less }) rfl HP.out)
      have HL2 := Lib.hid hl2
      clear hi hl2
      go_wp2_with fail
      refine (is_any (HR1.out.fr0 (Fr.drewN _ _ _)) [33]).mono ?_
      simp only [HI.out]
      rintro e w2 ⟨rfl, q2, rfl⟩
      go_wp2_with fail
      refine (remark_any ((HR1.out.fr0 (Fr.drewN _ _ _)).moved (r.at_ + 1 + 1) (by simp) HLT1.out) (s := s) HP.out HL2.out HO.out HRT.out false (by rw [HON.out]; simp)).mono ?_
      intro e w3 hgo
      have hm := hgo.m (w0 := w) (r0 := r) rfl HP.out HO.out HRT.out rfl rfl (by simp only; omega) ((HF1.out.trans (Fr.drewN _ _ _)).trans (Fr.setCell _ _ _ (.inl (Nat.le_refl _))))
      clear hgo c1 f1
      rcases hm with ⟨rfl, hm⟩ | ⟨g1, g2⟩
      · go_wp2_with fail
        go_end0
        exact .inl ⟨rfl, hm⟩
      · obtain ⟨a1, a2, rfl⟩ := g1.form
        unfold stopE at g1 ⊢
        exact ⟨rfl, .inr ⟨g1, g2⟩⟩
    | false =>
      have HI := Lib.hid hi
      have hg := getD_some HLT1.out
      have hn33 := isIt_not hi hg
      simp only [List.mem_singleton] at hn33
      clear hi
      cases hrt : r.root with
      | true =>
        have hw : Halts r.b (stopE (r.at_ + 1 : Nat) []) := HL.out.wrong hg (Gm.less_none (s := { s with st := .less }) rfl HP.out HON.out (HRT.out.trans hrt) hn33)
        have HW := Lib.hid hw
        have c1 := HR1.out.c1
        have c3 := HR1.out.c3
        simp only at c1 c3
        rw [hrt] at c3
        have HRR := Lib.hid hrt
        clear hw hg hn33 hrt
        go_wp2_with fail
        refine (is_any (HR1.out.fr0 (Fr.drewN _ _ _)) [33]).mono ?_
        simp only [HI.out]
        rintro e w2 ⟨rfl, q2, rfl⟩
        go_wp2_with fail
        refine (wrong_any _ _).mono ?_
        rintro e w3 ⟨rfl, hf3⟩
        have hw := HW.out
        have e : ((r.at_ + 1 : Nat) : Int) = (r.at_ : Int) + 1 := by omega
        rw [e] at hw
        unfold stopE at hw ⊢
        exact ⟨rfl, .inr ⟨hw, HF1.out.trans ((Fr.drewN _ _ _).trans hf3.of0)⟩⟩
      | false =>
        have HRR := Lib.hid hrt
        have c3 := HR1.out.c3
        simp only at c3
        rw [hrt] at c3
        clear hg hn33 hrt
        go_wp2_with fail
        refine (is_any (HR1.out.fr0 (Fr.drewN _ _ _)) [33]).mono ?_
        simp only [HI.out]
        rintro e w2 ⟨rfl, q2, rfl⟩
        go_wp2_with fail
        refine (startTag_any (HR1.out.fr0 (Fr.drewN _ _ _)) (s := { s with st := .less }) rfl HP.out HL.out HO.out (fun _ => HRT.out.trans HRR.out) HLT1.out HI.out (fun hn => absurd HON.out hn) (by have := HOL.out; simp only; omega)).mono ?_
        intro e w3 hpost
        have hm := hpost.m (w0 := w) (r0 := r) rfl ⟨_, _, rfl⟩ (by simp only; omega) (HF1.out.trans (Fr.drewN _ _ _))
        clear hpost c3
        rcases hm with ⟨rfl, hm⟩ | ⟨g1, g2⟩
        · go_wp2_with fail
          go_end0
          exact .inl ⟨rfl, hm⟩
        · obtain ⟨a1, a2, rfl⟩ := g1.form
          unfold stopE at g1 ⊢
          exact ⟨rfl, .inr ⟨g1, g2⟩⟩

set_option maxRecDepth 100000 in
set_option maxHeartbeats 4000000 in
theorem markup_in {B : Nat} {w : World} {p : Nat} {r : R} (h : Rd B w p r) {s : Gm.K} {m : Nat} (hst : s.st = .between m) (hp : s.pend = []) (hat : AtK r.b r.at_ s) (ho : s.opn = r.o) (hroot : s.root = r.root) (hx : r.b[r.at_]? = some 60) {nm : Gm.Bs} {o : List Gm.Bs} (hro : r.o = nm :: o) :
    Calls Tryd.prog 21 #[.pointer (some ⟨p, 0, none⟩)] w (MPost B w p r) := by
  have hrr : r.root = true := by rw [← hroot]; exact hat.ok.2.1 (by rw [ho, hro]; simp)
  have hlt : r.at_ < r.b.length := (List.getElem?_eq_some_iff.1 hx).1
  have hl := hat.step hx (Gm.between_less hst hp)
  have hsm := h.small
  have c1 := h.c1
  have c2 := h.c2
  have f1 := h.fz 1
  obtain ⟨ao, capo, hov, hol1⟩ := h.ov_slice
  rw [hov] at c2
  have hlen : 0 < r.o.length := by rw [hro]; simp
  have glen : decide ((r.o.length : Int) > 0) = true := by rw [decide_eq_true_iff]; omega
  have glen2 : decide (0 < r.o.length) = true := by rw [decide_eq_true_iff]; omega
  have hmv : Rd B (w.setCell ⟨p, 1, none⟩ (.int .i64 (r.at_ + 1 : Nat))) p { r with at_ := r.at_ + 1 } := h.moved (r.at_ + 1) (by omega) hlt
  have hol := h.olen
  have hle : r.at_ ≤ 4194304 := by omega
  have HMV := Lib.hid hmv
  have HO := Lib.hid ho
  have HRO := Lib.hid hro
  have HRT := Lib.hid hroot
  have HRR := Lib.hid hrr
  have HL := Lib.hid hl
  have HLT := Lib.hid hlt
  have HP := Lib.hid hp
  have HOL := Lib.hid hol
  have HON := Lib.hid (ho.trans hro)
  clear h hst hat ho hroot hx hro hov hl hlt hmv hp hol hrr
  go_enter Tryd.func21, Tryd.ntmps21
  go_wp2_with fail
  refine calls_gen (fun W => Rd B W p { r with at_ := r.at_ + 1 } ∧ Fr (above p) w W) ⟨HMV.out, Fr.setCell _ _ _ (.inl (Nat.le_refl _))⟩ ?_
  clear c1 c2 f1 glen glen2 hlen
  rintro W ⟨hr1, hf1⟩
  have HR1 := Lib.hid hr1
  have HF1 := Lib.hid hf1
  clear hr1 hf1
  by_cases hend : r.at_ + 1 = r.b.length
  · have HE := Lib.hid hend
    clear hend
    refine (ended_yes HR1.out HE.out).mono ?_
    rintro e w1 ⟨rfl, q, rfl⟩
    go_wp2_with fail
    refine (endTag_end (HR1.out.fr0 (Fr.drewN _ _ _)) (s := { s with st := .less }) HP.out rfl HL.out HO.out HRR.out HE.out HRO.out).mono ?_
    rintro e w2 ⟨hw, hf2⟩
    have hf3 := (HF1.out.trans (Fr.drewN _ _ _)).trans hf2.above
    obtain ⟨a1, a2, rfl⟩ := hw.form
    unfold stopE at hw ⊢
    exact ⟨rfl, .inr ⟨hw, hf3⟩⟩
  · have hlt1 : r.at_ + 1 < r.b.length := by have := HLT.out; omega
    have HE := Lib.hid hend
    have HLT1 := Lib.hid hlt1
    clear hend hlt1
    refine (ended_no HR1.out HE.out).mono ?_
    rintro e w1 ⟨rfl, q, rfl⟩
    cases hi : isIt [33] r.b (r.at_ + 1) with
    | true =>
      have HI := Lib.hid hi
      have c1 := HR1.out.c1
      have f1 := HR1.out.fz 1
      simp only at c1
      have hl2 : AtK r.b (r.at_ + 1 + 1) { s with st := .bang } := HL.out.step (isIt_get hi) (Gm.less_bang (s := { s with st := .less }) rfl HP.out)
      have HL2 := Lib.hid hl2
      clear hi hl2
      go_wp2_with fail
      refine (is_any (HR1.out.fr0 (Fr.drewN _ _ _)) [33]).mono ?_
      simp only [HI.out]
      rintro e w2 ⟨rfl, q2, rfl⟩
      go_wp2_with fail
      refine (remark_any ((HR1.out.fr0 (Fr.drewN _ _ _)).moved (r.at_ + 1 + 1) (by simp) HLT1.out) (s := s) HP.out HL2.out HO.out HRT.out true (by rw [HON.out]; simp)).mono ?_
      intro e w3 hgo
      have hm := hgo.m (w0 := w) (r0 := r) rfl HP.out HO.out HRT.out rfl rfl (by simp only; omega) ((HF1.out.trans (Fr.drewN _ _ _)).trans (Fr.setCell _ _ _ (.inl (Nat.le_refl _))))
      clear hgo c1 f1
      rcases hm with ⟨rfl, hm⟩ | ⟨g1, g2⟩
      · go_wp2_with fail
        go_end0
        exact .inl ⟨rfl, hm⟩
      · obtain ⟨a1, a2, rfl⟩ := g1.form
        unfold stopE at g1 ⊢
        exact ⟨rfl, .inr ⟨g1, g2⟩⟩
    | false =>
      have HI := Lib.hid hi
      clear hi
      cases hj : isIt [47] r.b (r.at_ + 1) with
      | true =>
        have HJ := Lib.hid hj
        have hl2 : AtK r.b (r.at_ + 1 + 1) { s with st := .endName nm, opn := o } := HL.out.step (isIt_get hj) (Gm.less_slash (s := { s with st := .less }) rfl HP.out HON.out)
        have HL2 := Lib.hid hl2
        clear hj hl2
        go_wp2_with fail
        refine (is_any (HR1.out.fr0 (Fr.drewN _ _ _)) [33]).mono ?_
        simp only [HI.out]
        rintro e w2 ⟨rfl, q2, rfl⟩
        go_wp2_with fail
        refine (is_any (HR1.out.fr0 (Fr.drewN _ _ _)) [47]).mono ?_
        simp only [HJ.out]
        rintro e w3 ⟨rfl, q3, rfl⟩
        go_wp2_with fail
        refine (endTag_go (HR1.out.fr0 (Fr.drewN _ _ _)) (s := s) HP.out HL2.out HRT.out HLT1.out HRO.out).mono ?_
        intro e w4 hgo
        have hm := hgo.m (w0 := w) (r0 := r) rfl HP.out rfl HRT.out rfl rfl (by simp only; omega) (HF1.out.trans (Fr.drewN _ _ _))
        clear hgo
        rcases hm with ⟨rfl, hm⟩ | ⟨g1, g2⟩
        · go_wp2_with fail
          go_end0
          exact .inl ⟨rfl, hm⟩
        · obtain ⟨a1, a2, rfl⟩ := g1.form
          unfold stopE at g1 ⊢
          exact ⟨rfl, .inr ⟨g1, g2⟩⟩
      | false =>
        have HJ := Lib.hid hj
        have c3 := HR1.out.c3
        simp only [HRR.out] at c3
        clear hj
        go_wp2_with fail
        refine (is_any (HR1.out.fr0 (Fr.drewN _ _ _)) [33]).mono ?_
        simp only [HI.out]
        rintro e w2 ⟨rfl, q2, rfl⟩
        go_wp2_with fail
        refine (is_any (HR1.out.fr0 (Fr.drewN _ _ _)) [47]).mono ?_
        simp only [HJ.out]
        rintro e w3 ⟨rfl, q3, rfl⟩
        go_wp2_with fail
        refine (startTag_any (HR1.out.fr0 (Fr.drewN _ _ _)) (s := { s with st := .less }) rfl HP.out HL.out HO.out (fun h => by rw [HON.out] at h; cases h) HLT1.out HI.out (fun _ => HJ.out) (by have := HOL.out; simp only; omega)).mono ?_
        intro e w4 hpost
        have hm := hpost.m (w0 := w) (r0 := r) rfl ⟨_, _, rfl⟩ (by simp only; omega) (HF1.out.trans (Fr.drewN _ _ _))
        clear hpost c3
        rcases hm with ⟨rfl, hm⟩ | ⟨g1, g2⟩
        · go_wp2_with fail
          go_end0
          exact .inl ⟨rfl, hm⟩
        · obtain ⟨a1, a2, rfl⟩ := g1.form
          unfold stopE at g1 ⊢
          exact ⟨rfl, .inr ⟨g1, g2⟩⟩

theorem markup_any {B : Nat} {w : World} {p : Nat} {r : R} (h : Rd B w p r) {s : Gm.K} {m : Nat} (hst : s.st = .between m) (hp : s.pend = []) (hat : AtK r.b r.at_ s) (ho : s.opn = r.o) (hroot : s.root = r.root) (hx : r.b[r.at_]? = some 60) :
    Calls Tryd.prog 21 #[.pointer (some ⟨p, 0, none⟩)] w (MPost B w p r) := by
  cases hro : r.o with
  | nil => exact markup_out h hst hp hat ho hroot hx hro
  | cons nm o => exact markup_in h hst hp hat ho hroot hx hro
end Go.Proofs.YtghhakilkmbpdaaDoor
