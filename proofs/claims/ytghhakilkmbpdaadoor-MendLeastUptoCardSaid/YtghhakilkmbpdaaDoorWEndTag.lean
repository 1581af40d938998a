/- Walks: reader.endTag. -/
import Derived.Test.YtghhakilkmbpdaaDoorWRemark
namespace Go.Proofs.YtghhakilkmbpdaaDoor
open Go Go.RowKit

/-- the innermost element shut -/
theorem Rd.pop {B : Nat} {w : World} {p : Nat} {r : R} (h : Rd B w p r) {nm : Gm.Bs} {o : List Gm.Bs} (ho : r.o = nm :: o) : ∃ g cap, r.ov = .slice (some ⟨g, 0, none⟩) (o.length + 1) cap ∧ o.length + 1 ≤ cap ∧ cap ≤ maxLen ∧ g < w.heap.size ∧ w.cell? ⟨g, o.length, none⟩ = some (.string ⟨nm.toArray⟩) ∧
    Rd B (w.setCell ⟨p, 2, none⟩ (.slice (some ⟨g, 0, none⟩) o.length cap)) p { r with o := o, ov := .slice (some ⟨g, 0, none⟩) o.length cap } := by
  have hown := h.own
  rcases own_strs hown with ⟨_, e⟩ | ⟨g, cap, hg, hv, hn, hm, hgs, hc⟩
  · rw [ho] at e; cases e
  · rw [ho] at hv hn hc
    simp only [List.length_cons] at hv hn hc
    refine ⟨g, cap, hv, hn, hm, hgs, ?_, ?_⟩
    · have := hc o.length (by omega)
      simpa using this
    · have hf : Fr (fun k => k = p) w (w.setCell ⟨p, 2, none⟩ (.slice (some ⟨g, 0, none⟩) o.length cap)) := Fr.setCell _ _ _ (.inl rfl)
      have hpB : ∀ k, k < B → ¬ k = p := fun k hk e => by have := h.hp; omega
      have hb : (w.setCell ⟨p, 2, none⟩ (.slice (some ⟨g, 0, none⟩) o.length cap)).heap[p]? = some (.cells (R.cells { r with o := o, ov := .slice (some ⟨g, 0, none⟩) o.length cap }) 53 (0, 0)) := by
        simp only [World.setCell, Array.getElem?_modify, h.blk, if_true, Option.map_some]
        rfl
      refine ⟨h.env.fr hf hpB, h.hp, hb, h.at_le, h.lcap, h.small, h.bcap, h.bytes.fr hf (fun a ha => hpB _ (h.low a ha)), h.low, ?_, ?_⟩
      · refine ownsRow_setCell_below ?_ (by simp) _
        obtain ⟨h1, h2⟩ := hown
        rcases h2 with ⟨_, h2⟩ | ⟨g', cap', cur, hv', hg', hh, hn', hm', hs, ht⟩
        · rw [ho] at h2; cases h2
        · rw [hv] at hv'
          simp only [Value.slice.injEq, Option.some.injEq, Addr.mk.injEq, and_true] at hv'
          obtain ⟨rfl, _, rfl⟩ := hv'
          refine ⟨by simp [strsV], .inr ⟨g, cap, cur, rfl, hg, hh, by simp only; omega, hm, hs, ?_⟩⟩
          rw [ho] at ht
          simp only [strsV, List.reverse_cons, List.map_append, List.map_cons, List.map_nil, List.length_cons, Nat.mul_one] at ht ⊢
          have := congrArg (List.take o.length) ht
          rw [List.take_take, Nat.min_eq_left (by omega), List.take_left' (by simp)] at this
          exact this
      · have h1 := h.olen
        rw [ho, Gm.closing_len] at h1
        simp only
        omega

theorem closing_ge (o : List Gm.Bs) : o.length ≤ (Gm.closing o).length := by
  induction o with
  | nil => simp
  | cons n o ih => simp [Gm.closing]; omega
theorem less_rest {s : Gm.K} (hp : s.pend = []) (hst : s.st = .less) {nm : Gm.Bs} {o : List Gm.Bs} (ho : s.opn = nm :: o) : s.rest = 47 :: nm ++ [62] ++ Gm.closing o := by
  simp [Gm.K.rest, Gm.K.within, Gm.K.left, Gm.K.rootless, hst, hp, ho]
theorem endName_rest (s : Gm.K) (l : Gm.Bs) : ({ s with st := .endName l } : Gm.K).rest = l ++ [62] ++ Gm.closing s.opn ++ Gm.rl s.root := by
  rw [Gm.rest_eq _ (by simp)]
  simp [Gm.K.within, Gm.K.left]
theorem endName_nil (s : Gm.K) (hp : s.pend = []) (x : UInt8) : ({ s with st := .endName [] } : Gm.K).step x = if Gm.blank x then some { s with st := .endName [] } else if x = 62 then some { s with st := .between 0 } else none := by
  by_cases hx : x.toNat < 128
  · rw [Gm.step_ascii (s := { s with st := .endName [] }) (by simp) hp hx]
    rfl
  · rw [Gm.step_pend (s := { s with st := .endName [] }) (by simp) (by simp [hx])]
    have h2 : Gm.blank x = false := by
      cases h : Gm.blank x with
      | false => rfl
      | true => exact absurd (Gm.blank_lt h).1 hx
    have h1 : ¬ x = 62 := by rintro rfl; simp at hx
    simp [Gm.K.cls, h1, h2]

set_option maxRecDepth 100000 in
set_option maxHeartbeats 4000000 in
/-- the bytes end behind the < -/
theorem endTag_end {B : Nat} {w : World} {p : Nat} {r : R} (h : Rd B w p r) {s : Gm.K} (hp : s.pend = []) (hst : s.st = .less) (hat : AtK r.b r.at_ s) (ho : s.opn = r.o) (hroot : r.root = true) (hend : r.at_ = r.b.length)
    {nm : Gm.Bs} {o : List Gm.Bs} (hro : r.o = nm :: o) :
    Calls Tryd.prog 25 #[.pointer (some ⟨p, 0, none⟩), .string ⟨#[47]⟩] w fun e w' => Halts r.b e ∧ Fr (only p) w w' := by
  obtain ⟨g, cap, hov, hn, hm, hgs, hcell, hpop⟩ := h.pop hro
  have hsm := h.small
  have hol := h.olen
  have hle := h.at_le
  rw [hro, Gm.closing_len] at hol
  have hol2 := closing_ge o
  have hol3 : o.length ≤ 16777216 := by omega
  have hol4 : nm.length ≤ 16777216 := by omega
  clear hol hol2
  have c2 := h.c2
  have f2 := h.fz 2
  rw [hov] at c2
  have hcat := cat_list
  have hz := size_list nm
  have hpopW : ∀ W, Fr S0 w W → Rd B (W.setCell ⟨p, 2, none⟩ (.slice (some ⟨g, 0, none⟩) o.length cap)) p { r with o := o, ov := .slice (some ⟨g, 0, none⟩) o.length cap } := by
    intro W hW
    obtain ⟨g', cap', e1, _, _, _, _, e2⟩ := (h.fr0 hW).pop hro
    rw [hov] at e1
    simp only [Value.slice.injEq, Option.some.injEq, Addr.mk.injEq, and_true, true_and] at e1
    obtain ⟨rfl, rfl⟩ := e1
    exact e2
  have hfin : Halts r.b (stopE (-1) (47 :: nm ++ [62] ++ Gm.closing o ++ Gm.rl r.root)) := by
    refine hat.ends hend ?_
    rw [less_rest hp hst (ho.trans hro), hroot]
    simp [Gm.rl]
  have HFIN := Lib.hid hfin
  have HPOP := Lib.hid hpopW
  clear hpopW
  generalize hL : o.length = L at *
  have HLL := Lib.hid hL
  clear hL
  have hLc : L ≤ cap := by omega
  unfold maxLen at hm
  clear hfin hpop h hp hst hat ho hroot hend hro hov
  go_enter Tryd.func25, Tryd.ntmps25
  go_wp2_with fail
  go_quiet (fail)
  go_wp2_with fail
  go_region
  go_wp2_with fail
  refine (end_any (HPOP.out _ (Fr.drewN _ _ _)) (47 :: (nm ++ [62])) (by simp; omega)).mono ?_
  rintro e w3 ⟨rfl, hf3⟩
  have hfr : Fr (only p) w w3 := ((Fr.drewN (only p) w _).trans (Fr.setCell (S := only p) _ ⟨p, 2, none⟩ _ (.inl rfl))).trans hf3.of0
  refine ⟨rfl, ?_, hfr⟩
  have h := HFIN.out
  have e : 47 :: nm ++ [62] ++ Gm.closing o ++ Gm.rl r.root = 47 :: (nm ++ [62]) ++ Gm.closing o ++ (if !r.root then [60, 65, 47, 62] else []) := rfl
  rw [e] at h
  exact h

theorem exit_gen {Q : Exit → Act → World → Prop} {x : Exit} {a : Act} {W : World} (C : World → Prop) (hc : C W) (h : ∀ W', C W' → Q x a W') : Q x a W := h _ hc

def PopPost (B : Nat) (w : World) (p : Nat) (r : R) (o : List Gm.Bs) (s' : Gm.K) (e : Ending) (w' : World) : Prop :=
  (e = .returned (.tuple #[]) ∧ ∃ n v, r.at_ < n ∧ AtK r.b n s' ∧ Rd B w' p { r with at_ := n, o := o, ov := v } ∧ Fr (only p) w w') ∨ (Halts r.b e ∧ Fr (only p) w w')

set_option maxRecDepth 100000 in
set_option maxHeartbeats 4000000 in
/-- from its slash on -/
theorem endTag_go {B : Nat} {w : World} {p : Nat} {r : R} (h : Rd B w p r) {s : Gm.K} (hp : s.pend = []) {nm : Gm.Bs} {o : List Gm.Bs} (hat : AtK r.b (r.at_ + 1) { s with st := .endName nm, opn := o }) (hroot : s.root = r.root) (hlt : r.at_ < r.b.length) (hro : r.o = nm :: o) :
    Calls Tryd.prog 25 #[.pointer (some ⟨p, 0, none⟩), .string ⟨#[]⟩] w (PopPost B w p r o { s with st := .between 0, opn := o }) := by
  obtain ⟨g, cap, hov, hn, hm, hgs, hcell, hpop⟩ := h.pop hro
  have hsm := h.small
  have hol := h.olen
  have hle := h.at_le
  rw [hro, Gm.closing_len] at hol
  have hol2 := closing_ge o
  have hol3 : o.length ≤ 16777216 := by omega
  have hol4 : nm.length ≤ 16777216 := by omega
  clear hol hol2
  have c2 := h.c2
  have f2 := h.fz 2
  rw [hov] at c2
  have hz := size_list nm
  have hpopW : ∀ W, Fr S0 w W → Rd B (W.setCell ⟨p, 2, none⟩ (.slice (some ⟨g, 0, none⟩) o.length cap)) p { r with o := o, ov := .slice (some ⟨g, 0, none⟩) o.length cap } := by
    intro W hW
    obtain ⟨g', cap', e1, _, _, _, _, e2⟩ := (h.fr0 hW).pop hro
    rw [hov] at e1
    simp only [Value.slice.injEq, Option.some.injEq, Addr.mk.injEq, and_true, true_and] at e1
    obtain ⟨rfl, rfl⟩ := e1
    exact e2
  generalize hL : o.length = L at *
  have HLL := Lib.hid hL
  clear hL
  have hLc : L ≤ cap := by omega
  unfold maxLen at hm
  have HPOP := Lib.hid hpopW
  have HP := Lib.hid hp
  have HAT := Lib.hid hat
  have HRT := Lib.hid hroot
  have HLT := Lib.hid hlt
  clear hpopW hpop h hp hat hroot hlt hro hov
  go_enter Tryd.func25, Tryd.ntmps25
  go_wp2_with fail
  go_quiet (fail)
  go_wp2_with fail
  go_region
  clear c2 f2
  refine exit_gen (fun W => Rd B W p { r with o := o, ov := .slice (some ⟨g, 0, none⟩) L cap } ∧ Fr (only p) w W) ⟨HPOP.out _ (Fr.drewN _ _ _), (Fr.drewN _ _ _).trans (Fr.setCell _ _ _ (.inl rfl))⟩ ?_
  rintro w1 ⟨hr1, hf1⟩
  have c1 := hr1.c1
  have f1 := hr1.fz 1
  simp only at c1
  have HR1 := Lib.hid hr1
  have HF1 := Lib.hid hf1
  clear hr1 hf1 hcell
  go_wp2_with fail
  have hcat := cat_list
  go_loopg [49] nm.length (fun k iv wr => ∃ i : Nat, i ≤ nm.length ∧ k = nm.length - i ∧ iv = .int .i64 i ∧ AtK r.b (r.at_ + 1 + i) { s with st := .endName (nm.drop i), opn := o } ∧ Rd B wr p { r with at_ := r.at_ + 1 + i, o := o, ov := .slice (some ⟨g, 0, none⟩) L cap } ∧ Fr (only p) w wr)
  case atStart => exact ⟨0, Nat.zero_le _, rfl, rfl, HAT.out, HR1.out.moved (r.at_ + 1) (by simp) HLT.out, HF1.out.trans (Fr.setCell _ _ _ (.inl rfl))⟩
  case round =>
    obtain ⟨i, hi, hk, rfl, hss, hrr, hff⟩ := hrel
    have HK := Lib.hid hk
    have HSS := Lib.hid hss
    have HRR := Lib.hid hrr
    have HFF := Lib.hid hff
    clear hk hss hrr hff
    have hle2 : r.at_ + 1 + i ≤ r.b.length := HRR.out.at_le
    by_cases hilt : i < nm.length
    · have hdr := drop_cons hilt
      have hstp : ∀ x, ({ s with st := .endName (nm.drop i), opn := o } : Gm.K).step x = if x = nm.getD i 0 then some { s with st := .endName (nm.drop (i + 1)), opn := o } else none := by
        intro x
        rw [hdr]
        exact Gm.step_endName (s := { s with st := .endName (nm.getD i 0 :: nm.drop (i + 1)), opn := o }) rfl x
      have hsz2 : i < (⟨nm.toArray⟩ : ByteArray).size := by rw [hz]; exact hilt
      have hci : (⟨nm.toArray⟩ : ByteArray)[i]'hsz2 = nm.getD i 0 := at_list _ _ _
      have htk : List.take (nm.length - i) (nm.drop i) = nm.drop i := List.take_of_length_le (by simp)
      have HSTP := Lib.hid hstp
      have HTK := Lib.hid htk
      have HCI := Lib.hid hci
      clear hdr hstp htk hci
      by_cases he : r.at_ + 1 + i = r.b.length
      · have hw := HSS.out.ends he (endName_rest { s with opn := o } (nm.drop i))
        rw [← HTK.out] at hw
        simp only [HRT.out] at hw
        have HW := Lib.hid hw
        have HE2 := Lib.hid he
        clear hw he
        go_wp2_with fail
        go_region_with (go_at_call 32; refine (must_end (HRR.out.fr0 (Fr.drew _ _)) _ (List.take (nm.length - i) (nm.drop i) ++ [62]) (by simp; omega) HE2.out).mono ?_; rintro e w2 ⟨rfl, hf2⟩; unfold stopE; refine panics (P := Tryd.prog) (md := default) w2 ⟨rfl, .inr ⟨HW.out, HFF.out.trans ((Fr.drew _ _).trans hf2.of0)⟩⟩ ?_)
        all_goals trivial
      · have hl2 : r.at_ + 1 + i < r.b.length := by omega
        have hg2 := getD_some hl2
        have HLL2 := Lib.hid hl2
        clear he
        by_cases hc : r.b.getD (r.at_ + 1 + i) 0 = nm.getD i 0
        · have haa : AtK r.b (r.at_ + 1 + (i + 1)) { s with st := .endName (nm.drop (i + 1)), opn := o } := HSS.out.step hg2 ((HSTP.out _).trans (if_pos hc))
          rw [← HCI.out] at hc
          have HAA := Lib.hid haa
          have HCC := Lib.hid hc
          clear haa hc hg2 hl2
          go_wp2_with fail
          go_region_with (go_at_call 32; refine (must_ok (HRR.out.fr0 (Fr.drew _ _)) _ (List.take (nm.length - i) (nm.drop i) ++ [62]) HLL2.out HCC.out).mono ?_; rintro e w2 ⟨rfl, hr2, hf2⟩)
          all_goals
            have HR2 := Lib.hid hr2
            have HF2 := Lib.hid hf2
            clear hr2 hf2
            go_wp2
            go_roundg (nm.length - (i + 1))
            case measure => rw [HK.out]; omega
            case rel => exact ⟨i + 1, hilt, rfl, by go_num, HAA.out, HR2.out, HFF.out.trans ((Fr.drew _ _).trans HF2.out)⟩
        · have hw := HSS.out.wrong hg2 ((HSTP.out _).trans (if_neg hc))
          rw [← HCI.out] at hc
          have HW := Lib.hid hw
          have HCC := Lib.hid hc
          clear hw hc hg2 hl2
          go_wp2_with fail
          go_region_with (go_at_call 32; refine (must_bad (HRR.out.fr0 (Fr.drew _ _)) _ (List.take (nm.length - i) (nm.drop i) ++ [62]) HLL2.out HCC.out).mono ?_; rintro e w2 ⟨rfl, hf2⟩; unfold stopE; refine panics (P := Tryd.prog) (md := default) w2 ⟨rfl, .inr ⟨HW.out, HFF.out.trans ((Fr.drew _ _).trans hf2.of0)⟩⟩ ?_)
          all_goals trivial
    · obtain rfl : i = nm.length := by omega
      have hss : AtK r.b (r.at_ + 1 + nm.length) { s with st := .endName [], opn := o } := by
        have := HSS.out
        rwa [List.drop_length] at this
      have HSS2 := Lib.hid hss
      clear hss
      go_wp2_with fail
      refine (blank_any HRR.out).mono ?_
      rintro e w2 ⟨n2, b1, b2, b3, b4, rfl, hr2, hf2⟩
      simp only at b1 b2 b3 b4
      have ha2 : AtK r.b n2 { s with st := .endName [], opn := o } := HSS2.out.blanks (fun x hx => by rw [endName_nil { s with opn := o } HP.out, if_pos hx]) b1 b3
      have HA2 := Lib.hid ha2
      have HR2 := Lib.hid hr2
      have HF2 := Lib.hid (HFF.out.trans hf2)
      have hstp : ∀ x, r.b[n2]? = some x → ({ s with st := .endName [], opn := o } : Gm.K).step x = if x = 62 then some { s with st := .between 0, opn := o } else none := by
        intro x hx
        rw [endName_nil { s with opn := o } HP.out, if_neg]
        rw [blank_iff, ← isIt_at hx, b4]
        simp
      have HSTP := Lib.hid hstp
      clear ha2 hr2 hf2 b3 b4 hstp
      go_wp2_with fail
      refine (must_at HR2.out HA2.out 62 [62] (by simp) (by rw [endName_rest { s with opn := o } []]; simp only [HRT.out]; rfl) HSTP.out).mono ?_
      rintro e w3 (⟨rfl, hl3, ha3, hr3, hf3⟩ | ⟨g1, g2⟩)
      · go_wp2
        go_end0
        exact .inl ⟨rfl, n2 + 1, _, by omega, ha3, hr3, HF2.out.trans hf3⟩
      · obtain ⟨a1, a2, rfl⟩ := g1.form
        unfold stopE
        exact ⟨rfl, .inr ⟨g1, HF2.out.trans g2⟩⟩
end Go.Proofs.YtghhakilkmbpdaaDoor
