/- Walks: reader.startTag. -/
import Derived.Test.YtghhakilkmbpdaaDoorWStart
namespace Gm
theorem blank_no3 {x : UInt8} (hx : blank x = true) : begins 3 [x] = false := by
  unfold blank at hx
  simp only [decide_eq_true_eq] at hx
  rcases hx with rfl | rfl | rfl | rfl <;> decide +kernel
theorem tag_blank {s : K} (hst : s.st = .tagName ∨ s.st = .inTag ∨ s.st = .valued) (hp : s.pend = []) {x : UInt8} (hx : blank x = true) : s.step x = some { s with st := .inTag } := by
  rw [tag_step hst hp (fun _ => blank_no3 hx) (.inl hx)]
  simp [K.behind, hx]
theorem tag_slash {s : K} (hst : s.st = .tagName ∨ s.st = .inTag ∨ s.st = .valued) (hp : s.pend = []) : s.step 47 = some { s with st := .slash } := by
  rw [tag_step hst hp (fun _ => by decide +kernel) (.inr (.inl rfl))]
  simp [K.behind, blank]
theorem tag_gt {s : K} (hst : s.st = .tagName ∨ s.st = .inTag ∨ s.st = .valued) (hp : s.pend = []) : s.step 62 = some { s with st := .between 0, opn := s.name :: s.opn } := by
  rw [tag_step hst hp (fun _ => by decide +kernel) (.inr (.inr (.inl rfl)))]
  simp [K.behind, blank]
theorem slash_step {s : K} (hst : s.st = .slash) (hp : s.pend = []) (x : UInt8) : s.step x = if x = 62 then some { s with st := .between 0 } else none := by
  have hne : ∀ y t, s.st ≠ .endName (y :: t) := by rw [hst]; simp
  by_cases hx8 : x.toNat < 128
  · rw [step_ascii hne hp hx8]
    simp [K.ascii, hst]
  · rw [step_pend hne (by simp [hx8])]
    have h1 : ¬ x = 62 := by rintro rfl; simp at hx8
    simp [K.cls, hst, h1]
theorem slash_rest {s : K} (hst : s.st = .slash) : s.rest = [62] ++ closing s.opn ++ rl s.root := by
  rw [rest_eq s (by rw [hst]; simp)]
  simp [K.within, K.left, hst]
end Gm
namespace Go.Proofs.YtghhakilkmbpdaaDoor
open Go Go.RowKit

theorem Rd.ov_slice {B : Nat} {w : World} {p : Nat} {r : R} (h : Rd B w p r) : ∃ a cap, r.ov = .slice a r.o.length cap ∧ r.o.length ≤ 16777216 := by
  have h2 := closing_ge r.o
  have h3 := h.olen
  have h4 := h.at_le
  have h5 := h.small
  rcases own_strs h.own with ⟨hv, ho⟩ | ⟨g, cap, hg, hv, hcap, hm, hgs, hc⟩
  · exact ⟨none, 0, by rw [hv, ho]; rfl, by omega⟩
  · exact ⟨_, cap, hv, by omega⟩

/-- append, by an equation of its run -/
theorem wpList_append_eq {P : Program} {ops : Array Oper} {rest : List Oper} {o : Oper} {a : Act} {Q : Exit → Act → World → Prop} {w w' : World} (hgd : o.guard = none) (s x : Operand) (t u : TypeId)
    (ho : o.op = .call { callee := .builtin .append, args := #[s, x], argTypes := #[t, u] }) {v y v' : Value} (hs : a.eval s = v) (hx : a.eval x = y)
    (hr : (Builtin.append_ #[t, u] o.type #[v, y]).run P w = .ok v' w') (h : wpList P ops Q rest (a.put o.dst v') w') : wpList P ops Q (o :: rest) a w :=
  wpList_plain hgd fun _ hK => by
    unfold Oper.wp execOp
    simp only [ho, resolve, invoke, builtin, Sem.run_bind, Sem.run_pure, Result.andThen_ok, List.map_toArray, List.map_cons, List.map_nil, hs, hx, hr]
    exact hK _ _ h

/-- the machine within a tag, behind its name, a blank, or a value -/
structure Tag (b : Gm.Bs) (n : Nat) (o : List Gm.Bs) (nm : Gm.Bs) (s : Gm.K) : Prop where
  at_ : AtK b n s
  st : s.st = .tagName ∨ s.st = .inTag ∨ s.st = .valued
  no3 : s.st = .tagName → n = b.length ∨ Gm.begins 3 [b.getD n 0] = false
  pend : s.pend = []
  opn : s.opn = o
  root : s.root = true
  name : s.name = nm

theorem Tag.blanks {b : Gm.Bs} {n m : Nat} {o : List Gm.Bs} {nm : Gm.Bs} {s : Gm.K} (h : Tag b n o nm s) (hne : s.st ≠ .inTag) (hle : n ≤ m) (hb : ∀ i, n ≤ i → i < m → isIt [32, 9, 10, 13] b i = true) :
    ∃ s', Tag b m o nm s' ∧ s'.had = s.had ∧ (n < m → s'.st = .inTag) ∧ (¬ n < m → s'.st ≠ .inTag) := by
  by_cases hlt : n < m
  · exact ⟨{ s with st := .inTag }, ⟨h.at_.blanks1 (fun x hx => Gm.tag_blank h.st h.pend hx) (fun x hx => Gm.tag_blank (s := { s with st := .inTag }) (.inr (.inl rfl)) h.pend hx) hlt hb,
      .inr (.inl rfl), (fun e => by cases e), h.pend, h.opn, h.root, h.name⟩, rfl, fun _ => rfl, fun hn => absurd hlt hn⟩
  · obtain rfl : n = m := by omega
    exact ⟨s, h, rfl, fun hn => absurd hn hlt, fun _ => hne⟩
theorem Tag.rest {b : Gm.Bs} {n : Nat} {o : List Gm.Bs} {nm : Gm.Bs} {s : Gm.K} (h : Tag b n o nm s) : s.rest = [47, 62] ++ Gm.closing o ++ Gm.rl true := by
  rw [Gm.tag_rest h.st h.pend, h.opn, h.root]
theorem Tag.gt {b : Gm.Bs} {n : Nat} {o : List Gm.Bs} {nm : Gm.Bs} {s : Gm.K} (h : Tag b n o nm s) (hx : b[n]? = some 62) : AtK b (n + 1) { s with st := .between 0, opn := nm :: o } := by
  have e : ({ s with st := .between 0, opn := nm :: o } : Gm.K) = { s with st := .between 0, opn := s.name :: s.opn } := by rw [h.opn, h.name]
  rw [e]
  exact h.at_.step hx (Gm.tag_gt h.st h.pend)
theorem Tag.slash {b : Gm.Bs} {n : Nat} {o : List Gm.Bs} {nm : Gm.Bs} {s : Gm.K} (h : Tag b n o nm s) (hx : b[n]? = some 47) : AtK b (n + 1) { s with st := .slash } := h.at_.step hx (Gm.tag_slash h.st h.pend)
theorem Tag.wrong {b : Gm.Bs} {n : Nat} {o : List Gm.Bs} {nm : Gm.Bs} {s : Gm.K} (h : Tag b n o nm s) (hne : s.st ≠ .inTag) (hl : n < b.length) (h0 : isIt [32, 9, 10, 13] b n = false) (h1 : isIt [47] b n = false) (h2 : isIt [62] b n = false) : Halts b (stopE n []) := by
  have hg := getD_some hl
  refine h.at_.wrong hg ?_
  have hnb : Gm.blank (b.getD n 0) = false := by rw [blank_iff, ← isIt_at hg]; exact h0
  have n1 : b.getD n 0 ≠ 47 := fun e => isIt_not h1 hg (by rw [e]; simp)
  have n2 : b.getD n 0 ≠ 62 := fun e => isIt_not h2 hg (by rw [e]; simp)
  rw [Gm.tag_step h.st h.pend (fun e => ?_) (.inr (.inr (.inr hne)))]
  · rw [Gm.K.behind, hnb, if_neg (by simp), if_neg n1, if_neg n2]
  · rcases h.no3 e with h3 | h3
    · omega
    · exact h3
end Go.Proofs.YtghhakilkmbpdaaDoor
namespace Go.Proofs.YtghhakilkmbpdaaDoor
open Go Go.RowKit

set_option maxRecDepth 100000 in
set_option maxHeartbeats 4000000 in
theorem startTag_any {B : Nat} {w : World} {p : Nat} {r : R} (h : Rd B w p r) {s : Gm.K} (hst : s.st = .less) (hp : s.pend = []) (hat : AtK r.b r.at_ s) (ho : s.opn = r.o) (hr0 : s.opn = [] → s.root = false) (hlt : r.at_ < r.b.length)
    (h33 : isIt [33] r.b r.at_ = false) (h47 : s.opn ≠ [] → isIt [47] r.b r.at_ = false) (hat1 : (Gm.closing r.o).length + 4 ≤ 4 * r.at_) :
    Calls Tryd.prog 27 #[.pointer (some ⟨p, 0, none⟩)] w (MPost B w p r) := by
  have hsm := h.small
  have hlc := h.lcap
  have hbc := h.bcap
  have hg := getD_some hlt
  have htk : Gm.Takes s 2 (r.b.getD r.at_ 0) := Gm.takes_less hst hp hr0 (fun e => isIt_not h33 hg (by rw [e]; simp)) (fun hn e => isIt_not (h47 hn) hg (by rw [e]; simp))
  have hch := hat.char hlt htk
  have c3 := h.c3
  have f3 := h.fz 3
  have HH := Lib.hid h
  have HST := Lib.hid hst
  have HP := Lib.hid hp
  have HAT := Lib.hid hat
  have HO := Lib.hid ho
  have HR0 := Lib.hid hr0
  have HLT := Lib.hid hlt
  have HCH := Lib.hid hch
  have HAT1 := Lib.hid hat1
  clear h hst hp hat ho hr0 hlt hch hg htk h33 h47 hat1
  go_enter Tryd.func27, Tryd.ntmps27
  have c1 := HH.out.c1
  have hc1 : (w.setCell ⟨p, 3, none⟩ (.bool true)).cell? ⟨p, 1, none⟩ = some (.int .i64 r.at_) := HH.out.rooted.c1
  go_wp2_with fail
  refine calls_gen (fun W => Rd B W p { r with root := true } ∧ Fr (only p) w W) ⟨HH.out.rooted, Fr.setCell _ _ _ (.inl rfl)⟩ ?_
  clear c1 c3 f3 hc1
  rintro w1 ⟨hr1, hf1⟩
  have HR1 := Lib.hid hr1
  have HF1 := Lib.hid hf1
  clear hr1 hf1
  refine (char_any HR1.out 2 (by omega) [47, 62] (by simp) HLT.out).mono ?_
  rintro e w2 hpost
  unfold CharPost at hpost
  simp only at hpost
  cases hc : Gm.charN 2 [] (r.b.drop r.at_) with
  | short q0 =>
    rw [hc] at hpost
    obtain ⟨rfl, hf2⟩ := hpost
    obtain ⟨hrun, hqn⟩ := HCH.out.2.2 q0 hc
    have hw : Halts r.b (stopE (-1) (Gm.compl 2 q0 ++ [47, 62] ++ Gm.closing r.o ++ (if !true then [60, 65, 47, 62] else []))) := by
      refine .inr ⟨_, hrun, ?_⟩
      rw [Gm.less_cut HST.out HR0.out hqn, HO.out]
      simp
    unfold stopE at hw ⊢
    exact ⟨rfl, .inr ⟨hw, (HF1.out.trans hf2.of0).above⟩⟩
  | bad k =>
    rw [hc] at hpost
    obtain ⟨rfl, hf2⟩ := hpost
    have hw := HCH.out.2.1 k hc
    unfold stopE at hw ⊢
    exact ⟨rfl, .inr ⟨hw, (HF1.out.trans hf2.of0).above⟩⟩
  | ok q0 =>
    rw [hc] at hpost
    obtain ⟨rfl, hr2, hf2⟩ := hpost
    have hak := HCH.out.1 q0 hc
    obtain ⟨v0, hv0, hsc0⟩ := Gm.scan_char0 hc
    have hq0 := Gm.char_ne hc
    obtain ⟨d1, d2, d3⟩ := drop_len hv0 hq0
    have hq0l : 0 < q0.length := List.length_pos_iff.2 hq0
    rw [Gm.less_took HST.out] at hak
    have HR2 := Lib.hid hr2
    have HF2 := Lib.hid (HF1.out.trans hf2)
    have HAK := Lib.hid hak
    have HV0 := Lib.hid hv0
    have HD := Lib.hid (And.intro d2 d3)
    clear hr2 hf2 hak hv0 hq0 hc d2 d3 hsc0
    go_wp2_with fail
    refine (nameRest_any HR2.out [47, 62] (by simp)).mono ?_
    rintro e w3 ⟨n, hn1, hn2, hrun, hcases⟩
    simp only at hn1 hn2 hrun hcases
    obtain ⟨_, hB, _⟩ := hrun.at_ (s := { s with st := .tagName, pend := [], root := true, name := q0, had := [] }) rfl
    have hakn := hB rfl HAK.out
    have hname : (r.b.drop r.at_).take (n - r.at_) = q0 ++ (r.b.drop (r.at_ + q0.length)).take (n - (r.at_ + q0.length)) := by
      rw [HV0.out, HD.out.1, List.take_append, List.take_of_length_le (by omega)]
      congr 2
      omega
    simp only [← hname] at hakn
    rcases hcases with ⟨rfl, hend, hr3, hf3⟩ | ⟨hnlt, hb3, k, hbad, rfl, hf3⟩ | ⟨hnlt, q', hsh, rfl, hf3⟩
    · have hnlen : ((r.b.drop r.at_).take (n - r.at_)).length = n - r.at_ := by simp; omega
      have hbk : ∃ bk off, r.ao = some ⟨bk, off, none⟩ ∧ BAt w3 (some ⟨bk, off + r.at_, none⟩) ((r.b.drop r.at_).take (n - r.at_)) := by
        rcases hr3.bytes with e | ⟨bk, off, e, hby⟩
        · exact absurd HLT.out (by rw [show r.b = [] from e]; simp)
        · refine ⟨bk, off, e, .inr ⟨bk, off + r.at_, rfl, fun j hj => ?_⟩⟩
          have hj' : j < n - r.at_ := by omega
          have hb := hby (r.at_ + j) (show r.at_ + j < r.b.length by omega)
          rw [← Nat.add_assoc] at hb
          rw [hb]
          simp [List.getD, List.getElem?_take_of_lt hj', List.getElem?_drop]
      obtain ⟨bk, off, hao, hBA⟩ := hbk
      have hcs : ∀ j, (convert 22 9 (.slice (some ⟨bk, off + r.at_, none⟩) (n - r.at_) (r.cap - r.at_))).run Tryd.prog (w3.drewN j) = .ok (.string ⟨((r.b.drop r.at_).take (n - r.at_)).toArray⟩) (w3.drewN j) := by
        intro j
        have := conv_str (hBA.fr (Fr.drewN S0 w3 j) (fun a _ h => h)) (r.cap - r.at_)
        rw [hnlen] at this
        exact this
      have c0 := hr3.c0
      have c1 := hr3.c1
      simp only at c0 c1
      rw [hao] at c0
      have hnb : n ≤ r.cap := by omega
      have hna : r.at_ ≤ n := by omega
      have HR3 := Lib.hid hr3
      have HF3 := Lib.hid (HF2.out.trans hf3)
      have HAKN := Lib.hid hakn
      have HEND := Lib.hid hend
      have HNL := Lib.hid hnlen
      clear hr3 hf3 hakn hend hBA hname hB hrun hnlen
      generalize (r.b.drop r.at_).take (n - r.at_) = nm at *
      have hmm := @run_makeMap Tryd.prog
      go_wp2_with fail
      go_quiet (fail)
      go_wp2_with fail
      rename Nat => nq
      have hp3 : p < w3.heap.size := HR3.out.lt
      have hmB : B ≤ w3.heap.size := by have := HR3.out.hp; omega
      have hmo : ∀ k, r.ov.ownBlock = some k → k ≠ w3.heap.size := by
        intro k hk e
        obtain ⟨_, h2⟩ := HR3.out.own
        rcases h2 with ⟨h2, _⟩ | ⟨g, cap, cur, hv, _, hh, _⟩
        · rw [show r.ov = _ from h2] at hk; cases hk
        · rw [show r.ov = _ from hv] at hk
          cases hk
          have e' : g = w3.heap.size := e
          have := (Array.getElem?_eq_some_iff.1 hh).1
          omega
      have hnew : HadAt ((w3.drewN nq).alloc (.map #[] 0)) w3.heap.size [] := had_new (w3.drewN nq)
      have hr4 : Rd B ((w3.drewN nq).alloc (.map #[] 0)) p { r with at_ := n, root := true } := HR3.out.fr0 ((Fr.drewN _ _ _).trans (Fr.alloc _ _ _))
      have hf4 : Fr (above p) w ((w3.drewN nq).alloc (.map #[] 0)) := HF3.out.above.trans ((Fr.drewN _ _ _).trans (Fr.alloc _ _ _))
      have HMO := Lib.hid hmo
      have HNEW := Lib.hid hnew
      have HR4 := Lib.hid hr4
      have HF4 := Lib.hid hf4
      clear hmo hnew hr4 hf4 c0 c1 hcs hmm
      go_loopg [] (r.b.length - n) (fun k wr => ∃ n4 s4, n ≤ n4 ∧ n4 ≤ r.b.length ∧ k = r.b.length - n4 ∧ Tag r.b n4 r.o nm s4 ∧ s4.st ≠ .inTag ∧
        HadAt wr w3.heap.size s4.had ∧ s4.had.length ≤ n4 ∧ Rd B wr p { r with at_ := n4, root := true } ∧ Fr (above p) w wr)
      case atStart => exact ⟨n, _, Nat.le_refl _, hn2, rfl, ⟨HAKN.out, .inl rfl, fun _ => HEND.out, rfl, HO.out, rfl, rfl⟩, by simp, HNEW.out, by simp, HR4.out, HF4.out⟩
      case round =>
        obtain ⟨n4, s4, e1, e2, hk, ht4, hne4, hh4, hl4, hr4, hf4⟩ := hrel
        have HK := Lib.hid hk
        have HT4 := Lib.hid ht4
        have HNE4 := Lib.hid hne4
        have HH4 := Lib.hid hh4
        have HR5 := Lib.hid hr4
        have HF5 := Lib.hid hf4
        clear hk ht4 hne4 hh4 hr4 hf4
        go_wp2_with fail
        refine (blank_any HR5.out).mono ?_
        rintro e w6 ⟨n5, b1, b2, b3, b4, rfl, hr6, hf6⟩
        simp only at b1 b2 b3 b4
        obtain ⟨s5, ht5, hhd, hin, hnin⟩ := HT4.out.blanks HNE4.out b1 b3
        have HT5 := Lib.hid ht5
        have HHD := Lib.hid hhd
        have HIN := Lib.hid hin
        have HNIN := Lib.hid hnin
        have HB4 := Lib.hid b4
        have HR6 := Lib.hid hr6
        have HF6 := Lib.hid (HF5.out.trans hf6.above)
        have HH6 := Lib.hid (HH4.out.fr hf6 (fun e => by unfold only at e; omega))
        clear ht5 hhd hin hnin b3 b4 hr6 hf6
        by_cases hend : n5 = r.b.length
        · have HE := Lib.hid hend
          clear hend
          go_wp2_with fail
          refine (ended_yes HR6.out HE.out).mono ?_
          rintro e w7 ⟨rfl, q, rfl⟩
          go_wp2_with fail
          refine (end_any (HR6.out.fr0 (Fr.drewN _ _ _)) [47, 62] (by simp)).mono ?_
          rintro e w8 ⟨rfl, hf8⟩
          have hw : Halts r.b (stopE (-1) ([47, 62] ++ Gm.closing r.o ++ (if !true then [60, 65, 47, 62] else []))) := HT5.out.at_.ends HE.out HT5.out.rest
          unfold stopE at hw ⊢
          exact ⟨rfl, .inr ⟨hw, HF6.out.trans ((Fr.drewN _ _ _).trans hf8.of0)⟩⟩
        · have hlt5 : n5 < r.b.length := by omega
          have HE := Lib.hid hend
          have HLT5 := Lib.hid hlt5
          clear hend
          cases hi62 : isIt [62] r.b n5 with
          | true =>
            have HI := Lib.hid hi62
            clear hi62
            go_wp2_with fail
            refine (ended_no HR6.out HE.out).mono ?_
            rintro e w7 ⟨rfl, q, rfl⟩
            go_wp2_with fail
            refine (is_any (HR6.out.fr0 (Fr.drewN _ _ _)) [62]).mono ?_
            simp only [HI.out]
            rintro e w8 ⟨rfl, q2, rfl⟩
            have c1 := HR6.out.c1
            have f1 := HR6.out.fz 1
            simp only at c1
            have h6 : p < w6.heap.size := HR6.out.lt
            go_upto_region 11 with (fail)
            refine wp_gen (fun W => Rd B W p { r with at_ := n5 + 1, root := true } ∧ Fr (above p) w W) ⟨(HR6.out.fr0 (Fr.drewN _ _ _)).moved (n5 + 1) (by simp) HLT5.out, (HF6.out.trans (Fr.drewN _ _ _)).trans (Fr.setCell _ _ _ (.inl (Nat.le_refl _)))⟩ ?_
            clear c1 f1
            rintro W ⟨hr9, hf9⟩
            have hol : (Gm.closing (nm :: r.o)).length ≤ 4 * (n5 + 1) := by
              have h1 := HAT1.out
              have h2 := HNL.out
              rw [Gm.closing_len]
              omega
            have hal : Rd B (W.alloc (.cells #[.string ⟨nm.toArray⟩] 9)) p { r with at_ := n5 + 1, root := true } := hr9.fr0 (Fr.alloc _ _ _)
            obtain ⟨v', w', hrun, hfz, ⟨u, hcu⟩, hrd, hfr⟩ := hal.push nm W.heap.size (by simp) hol
            have c2 := hr9.c2
            simp only at c2
            have HR9 := Lib.hid hrd
            have HF9 := Lib.hid ((hf9.trans (Fr.alloc _ _ _)).trans hfr)
            have HG := Lib.hid (HT5.out.gt (isIt_get HI.out))
            have HP5 := Lib.hid HT5.out.pend
            obtain ⟨ao', cap', hv', _⟩ := hrd.ov_slice
            obtain rfl : v' = .slice ao' (r.o.length + 1) cap' := hv'
            have HRUN := Lib.hid hrun
            clear hr9 hf9 hal hrd hfr hol hrun
            go_wp2_with (at_builtin; refine wpList_append_eq rfl _ _ _ _ rfl rfl rfl HRUN.out ?_)
            refine bodyPost_ret (results_none rfl _ _ _) rfl ?_
            refine .inl ⟨rfl, n5 + 1, _, .slice ao' (r.o.length + 1) cap', by omega, HG.out, rfl, HP5.out, ?_, HF9.out⟩
            rw [HT5.out.root]
            exact HR9.out
          | false =>
            have HI := Lib.hid hi62
            clear hi62
            cases hi47 : isIt [47] r.b n5 with
            | true =>
              have HJ := Lib.hid hi47
              clear hi47
              go_wp2_with fail
              refine (ended_no HR6.out HE.out).mono ?_
              rintro e w7 ⟨rfl, q, rfl⟩
              go_wp2_with fail
              refine (is_any (HR6.out.fr0 (Fr.drewN _ _ _)) [62]).mono ?_
              simp only [HI.out]
              rintro e w8 ⟨rfl, q2, rfl⟩
              go_wp2_with fail
              refine (is_any (HR6.out.fr0 (Fr.drewN _ _ _)) [47]).mono ?_
              simp only [HJ.out]
              rintro e w9 ⟨rfl, q3, rfl⟩
              have c1 := HR6.out.c1
              have f1 := HR6.out.fz 1
              simp only at c1
              have HS5 := Lib.hid (HT5.out.slash (isIt_get HJ.out))
              have HP5 := Lib.hid HT5.out.pend
              have HO5 := Lib.hid HT5.out.opn
              have HRT5 := Lib.hid HT5.out.root
              go_wp2_with fail
              refine (must_at ((HR6.out.fr0 (Fr.drewN _ _ _)).moved (n5 + 1) (by simp) HLT5.out) HS5.out 62 [62] (by simp) (by rw [Gm.slash_rest rfl]; simp only [HO5.out, HRT5.out]) (fun x _ => Gm.slash_step (s := { s5 with st := .slash }) rfl HP5.out x)).mono ?_
              clear c1 f1
              rintro e w10 (⟨rfl, hl10, ha10, hr10, hf10⟩ | ⟨g1, g2⟩)
              · try simp only at hr10 ha10 hl10
                have HA10 := Lib.hid ha10
                have HR10 := Lib.hid hr10
                have HF10 := Lib.hid (((HF6.out.trans (Fr.drewN _ _ _)).trans (Fr.setCell _ _ _ (.inl (Nat.le_refl _)))).trans hf10.above)
                clear ha10 hr10 hf10
                go_wp2_with fail
                refine bodyPost_ret (results_none rfl _ _ _) rfl ?_
                refine .inl ⟨rfl, n5 + 1 + 1, _, r.ov, by omega, HA10.out, rfl, HP5.out, ?_, HF10.out⟩
                rw [HO5.out, HRT5.out]
                exact HR10.out
              · obtain ⟨a1, a2, rfl⟩ := g1.form
                unfold stopE at g1 ⊢
                exact ⟨rfl, .inr ⟨g1, ((HF6.out.trans (Fr.drewN _ _ _)).trans (Fr.setCell _ _ _ (.inl (Nat.le_refl _)))).trans g2.above⟩⟩
            | false =>
              have HJ := Lib.hid hi47
              clear hi47
              by_cases hsp : n4 < n5
              · have HIT := Lib.hid (HIN.out hsp)
                go_wp2_with fail
                refine (ended_no HR6.out HE.out).mono ?_
                rintro e w7 ⟨rfl, q, rfl⟩
                go_wp2_with fail
                refine (is_any (HR6.out.fr0 (Fr.drewN _ _ _)) [62]).mono ?_
                simp only [HI.out]
                rintro e w8 ⟨rfl, q2, rfl⟩
                go_wp2_with fail
                refine (is_any (HR6.out.fr0 (Fr.drewN _ _ _)) [47]).mono ?_
                simp only [HJ.out]
                rintro e w9 ⟨rfl, q3, rfl⟩
                go_wp2_with fail
                refine (attribute_any (HR6.out.fr0 (Fr.drewN _ _ _)) (s := s5) HIT.out HT5.out.pend HT5.out.at_ HT5.out.opn HT5.out.root (m := w3.heap.size) (by rw [HHD.out]; exact HH6.out.fr (Fr.drewN S0 _ _) (fun h => h)) (by omega) hmB HMO.out (by rw [HHD.out]; simp only; omega) HLT5.out ⟨HB4.out, HJ.out, HI.out⟩).mono ?_
                rintro e w10 (⟨rfl, n11, name, g1, g2, g3, g4, g5, g6⟩ | ⟨g1, g2⟩)
                · try simp only at g1 g2 g3 g4
                  have hn11 := g4.at_le
                  simp only at hn11
                  have HA11 := Lib.hid g3
                  have HR11 := Lib.hid g4
                  have HH11 := Lib.hid g5
                  have HF11 := Lib.hid ((HF6.out.trans (Fr.drewN _ _ _)).trans (g6.above2 (by omega)))
                  clear g3 g4 g5 g6
                  go_wp2_with fail
                  go_roundg (r.b.length - n11)
                  case measure => rw [HK.out]; omega
                  case rel => exact ⟨n11, { s5 with st := .valued, attr := name, had := name :: s5.had }, by omega, hn11, rfl, ⟨HA11.out, .inr (.inr rfl), (fun e => by cases e), HT5.out.pend, HT5.out.opn, HT5.out.root, HT5.out.name⟩, (by simp), HH11.out, g2, HR11.out, HF11.out⟩
                · obtain ⟨a1, a2, rfl⟩ := g1.form
                  unfold stopE at g1 ⊢
                  exact ⟨rfl, .inr ⟨g1, (HF6.out.trans (Fr.drewN _ _ _)).trans (g2.above2 (by omega))⟩⟩
              · have hw := HT5.out.wrong (HNIN.out hsp) HLT5.out HB4.out HJ.out HI.out
                have HW := Lib.hid hw
                have c1 := HR6.out.c1
                simp only at c1
                clear hw
                go_wp2_with fail
                refine (ended_no HR6.out HE.out).mono ?_
                rintro e w7 ⟨rfl, q, rfl⟩
                go_wp2_with fail
                refine (is_any (HR6.out.fr0 (Fr.drewN _ _ _)) [62]).mono ?_
                simp only [HI.out]
                rintro e w8 ⟨rfl, q2, rfl⟩
                go_wp2_with fail
                refine (is_any (HR6.out.fr0 (Fr.drewN _ _ _)) [47]).mono ?_
                simp only [HJ.out]
                rintro e w9 ⟨rfl, q3, rfl⟩
                go_wp2_with fail
                refine (wrong_any _ _).mono ?_
                rintro e w10 ⟨rfl, hf10⟩
                have hw := HW.out
                unfold stopE at hw ⊢
                exact ⟨rfl, .inr ⟨hw, (HF6.out.trans (Fr.drewN _ _ _)).trans hf10.of0⟩⟩
    · have hw := (hakn.char hnlt (Gm.takes_attr (s := { s with st := .tagName, pend := [], root := true, name := (r.b.drop r.at_).take (n - r.at_), had := [] }) (.inr rfl) rfl hb3)).2.1 k hbad
      unfold stopE at hw ⊢
      exact ⟨rfl, .inr ⟨hw, (HF2.out.trans hf3).above⟩⟩
    · have hb3 : Gm.begins 3 [r.b.getD n 0] = true := by
        rw [drop_cons hnlt] at hsh
        simp only [Gm.charN, List.nil_append] at hsh
        split at hsh
        · rename_i hb; exact hb
        · cases hsh
      obtain ⟨hrn, hqn⟩ := (hakn.char hnlt (Gm.takes_attr (s := { s with st := .tagName, pend := [], root := true, name := (r.b.drop r.at_).take (n - r.at_), had := [] }) (.inr rfl) rfl hb3)).2.2 q' hsh
      have hw : Halts r.b (stopE (-1) (Gm.compl 3 q' ++ [47, 62] ++ Gm.closing r.o ++ (if !true then [60, 65, 47, 62] else []))) := by
        refine .inr ⟨_, hrn, ?_⟩
        rw [Gm.tag_cut (s := { s with st := .tagName, pend := [], root := true, name := (r.b.drop r.at_).take (n - r.at_), had := [] }) rfl hqn]
        simp only [HO.out, Gm.rl]
      unfold stopE at hw ⊢
      exact ⟨rfl, .inr ⟨hw, (HF2.out.trans hf3).above⟩⟩
end Go.Proofs.YtghhakilkmbpdaaDoor
