/- Walks: reader.until. -/
import Derived.Test.YtghhakilkmbpdaaDoorWName
namespace Go.Proofs.YtghhakilkmbpdaaDoor
open Go Go.RowKit

/-- a call that reads on: it comes back where the machine stands so, or stops as the machine says -/
def Goes (B : Nat) (w : World) (p : Nat) (r : R) (s' : Gm.K) (e : Ending) (w' : World) : Prop :=
  (e = .returned (.tuple #[]) ∧ ∃ n, r.at_ < n ∧ AtK r.b n s' ∧ Rd B w' p { r with at_ := n } ∧ Fr (only p) w w') ∨ (Halts r.b e ∧ Fr (only p) w w')

theorem getD_some {b : Gm.Bs} {n : Nat} (h : n < b.length) : b[n]? = some (b.getD n 0) := by simp [List.getD, h]
theorem drop_cons {b : Gm.Bs} {n : Nat} (h : n < b.length) : b.drop n = b.getD n 0 :: b.drop (n + 1) := by
  rw [List.drop_eq_getElem_cons h]
  simp [List.getD, h]

/-- the machine over a run of bytes -/
theorem AtK.run {b : Gm.Bs} {n : Nat} {s s' : Gm.K} (h : AtK b n s) {u v : Gm.Bs} (hb : b.drop n = u ++ v) (hs : s.run u = some s') : AtK b (n + u.length) s' := by
  have hl : n + u.length ≤ b.length := by
    have := congrArg List.length hb
    simp at this
    have := h.1
    omega
  refine ⟨hl, ?_⟩
  have e : b.take (n + u.length) = b.take n ++ u := by
    rw [List.take_add, hb, List.take_left']
    rfl
  rw [e, Gm.run_append, h.2]
  exact hs

/-- a character of a class, taken, refused or cut off, as the machine has it -/
theorem AtK.char {b : Gm.Bs} {n : Nat} {s : Gm.K} (h : AtK b n s) (hn : n < b.length) {c : Nat} (ht : Gm.Takes s c (b.getD n 0)) :
    (∀ q, Gm.charN c [] (b.drop n) = .ok q → AtK b (n + q.length) (s.took q)) ∧
    (∀ k, Gm.charN c [] (b.drop n) = .bad k → Halts b (stopE ((n + k : Nat) : Int) [])) ∧
    (∀ q, Gm.charN c [] (b.drop n) = .short q → Gm.K.init.run b = some { s with pend := q } ∧ q ≠ []) := by
  have hd := drop_cons hn
  rw [hd]
  obtain ⟨a, d, f⟩ := Gm.takes_char (t := b.drop (n + 1)) ht
  refine ⟨fun q hq => ?_, fun k hk => ?_, fun q hq => ?_⟩
  · obtain ⟨v, h1, h2⟩ := a q hq
    exact h.run (hd.trans h1) h2
  · obtain ⟨u, y, v, h1, h2, s', h3, h4⟩ := d k hk
    have h5 := h.run (v := y :: v) (hd.trans h1) h3
    rw [← h2] at h5
    refine h5.wrong (x := y) ?_ h4
    have : (b.drop n)[k]? = some y := by rw [hd, h1, h2]; simp
    rw [List.getElem?_drop] at this
    exact this
  · obtain ⟨h1, h2⟩ := f q hq
    refine ⟨?_, by rw [h1]; simp⟩
    have h3 := h.run (v := []) (by rw [hd, List.append_nil]) h2
    have : n + (b.getD n 0 :: b.drop (n + 1)).length = b.length := by rw [← hd]; simp; omega
    rw [this] at h3
    have := h3.2
    rwa [List.take_length] at this

/-- of a mark's reading: the states mk 0, mk 1 .. -/
structure Marks (s : Gm.K) (m0 : UInt8) (strict : Bool) (mk : Nat → Gm.St) : Prop where
  rest : ∀ n, ({ s with st := mk n } : Gm.K).rest = [m0, m0, 62].drop (min n 2) ++ Gm.closing s.opn ++ Gm.rl s.root
  goes : ∀ n, 2 ≤ n → ({ s with st := mk n } : Gm.K).step 62 = some { s with st := .between 0 }
  wrong : ∀ n x, strict = true → 2 ≤ n → x ≠ 62 → ({ s with st := mk n } : Gm.K).step x = none
  more : ∀ n, ¬ (2 ≤ n ∧ strict = true) → ({ s with st := mk n } : Gm.K).step m0 = some { s with st := mk (n + 1) }
  takes : ∀ n x, x ≠ m0 → ¬ (2 ≤ n ∧ x = 62) → ¬ (2 ≤ n ∧ strict = true) → Gm.Takes ({ s with st := mk n } : Gm.K) 0 x
  took : ∀ n q, ({ s with st := mk n } : Gm.K).took q = { s with st := mk 0 }
  cut : ∀ n q, q ≠ [] → ¬ (2 ≤ n ∧ strict = true) → ({ ({ s with st := mk n } : Gm.K) with pend := q } : Gm.K).rest = Gm.compl 0 q ++ [m0, m0, 62] ++ Gm.closing s.opn ++ Gm.rl s.root
  m0_ne : m0 ≠ 62

theorem marks_comment (s : Gm.K) (hp : s.pend = []) : Marks s 45 true .comment where
  rest n := by simp [Gm.K.rest, Gm.K.within, Gm.K.left, Gm.K.rootless, Gm.K.cls, hp, Gm.rl]
  goes n hn := by
    rw [Gm.step_ascii (s := { s with st := .comment n }) (by simp) hp (by decide)]
    simp [Gm.K.ascii, hn]
  wrong n x _ hn hx := by
    by_cases h : x.toNat < 128
    · rw [Gm.step_ascii (s := { s with st := .comment n }) (by simp) hp h]
      simp [Gm.K.ascii, hn, hx]
    · rw [Gm.step_pend (s := { s with st := .comment n }) (by simp) (by simp [h])]
      simp [Gm.K.cls, show ¬ n < 2 by omega]
  more n hn := by
    have : ¬ 2 ≤ n := fun h => hn ⟨h, rfl⟩
    rw [Gm.step_ascii (s := { s with st := .comment n }) (by simp) hp (by decide)]
    simp [Gm.K.ascii, this]
  takes n x hx h1 h2 := by
    have : ¬ 2 ≤ n := fun h => h2 ⟨h, rfl⟩
    exact ⟨by simp, hp, by simp [Gm.K.cls, show n < 2 by omega], fun _ => by simp [Gm.K.ascii, this, hx, Gm.K.took, hp]⟩
  took n q := by simp [Gm.K.took, hp]
  cut n q hq h2 := by
    have : n < 2 := by
      rcases Nat.lt_or_ge n 2 with h | h
      · exact h
      · exact absurd ⟨h, rfl⟩ h2
    cases q with
    | nil => exact absurd rfl hq
    | cons a t => simp [Gm.K.rest, Gm.K.within, Gm.K.left, Gm.K.rootless, Gm.K.cls, this, Gm.rl]
  m0_ne := by decide

theorem marks_section (s : Gm.K) (hp : s.pend = []) : Marks s 93 false .section_ where
  rest n := by simp [Gm.K.rest, Gm.K.within, Gm.K.left, Gm.K.rootless, Gm.K.cls, hp, Gm.rl]
  goes n hn := by
    rw [Gm.step_ascii (s := { s with st := .section_ n }) (by simp) hp (by decide)]
    simp [Gm.K.ascii, hn]
  wrong n x h _ _ := by cases h
  more n _ := by
    rw [Gm.step_ascii (s := { s with st := .section_ n }) (by simp) hp (by decide)]
    simp [Gm.K.ascii]
  takes n x hx h1 _ := by
    exact ⟨by simp, hp, by simp [Gm.K.cls], fun _ => by
      simp only [Gm.K.ascii, Gm.K.took]
      rw [if_neg (fun h => h1 h), if_neg hx]
      simp [hp]⟩
  took n q := by simp [Gm.K.took, hp]
  cut n q hq _ := by
    cases q with
    | nil => exact absurd rfl hq
    | cons a t => simp [Gm.K.rest, Gm.K.within, Gm.K.left, Gm.K.rootless, Gm.K.cls, Gm.rl]
  m0_ne := by decide

theorem at2 (a b c : UInt8) : ((⟨#[a, b, c]⟩ : ByteArray)[2]'(by show 2 < 3; omega)) = c := rfl
theorem at0 (a b c : UInt8) : ((⟨#[a, b, c]⟩ : ByteArray)[0]'(by show 0 < 3; omega)) = a := rfl

theorem rl_eq (b : Bool) : (if !b then [60, 65, 47, 62] else []) = Gm.rl b := rfl

set_option maxRecDepth 100000 in
set_option maxHeartbeats 4000000 in
theorem until_any {B : Nat} {w : World} {p : Nat} {r : R} (h : Rd B w p r) {s : Gm.K} {m0 : UInt8} {strict : Bool} {mk : Nat → Gm.St} (hm : Marks s m0 strict mk) (hat : AtK r.b r.at_ { s with st := mk 0 })
    (ho : s.opn = r.o) (hroot : s.root = r.root) :
    Calls Tryd.prog 33 #[.pointer (some ⟨p, 0, none⟩), .string ⟨#[m0, m0, 62]⟩, .bool strict] w (Goes B w p r { s with st := .between 0 }) := by
  have hsm := h.small
  have hle := h.at_le
  have HH := Lib.hid h
  have HM := Lib.hid hm
  have HO := Lib.hid ho
  have HRT := Lib.hid hroot
  have HAT := Lib.hid hat
  clear h hm ho hroot hat
  go_enter Tryd.func33, Tryd.ntmps33
  go_wp2_with fail
  go_loopg [6] (r.b.length - r.at_) (fun k nv wr => ∃ n m : Nat, r.at_ ≤ n ∧ n ≤ r.b.length ∧ k = r.b.length - n ∧ nv = .int .i64 m ∧ m ≤ n ∧ AtK r.b n { s with st := mk m } ∧ Rd B wr p { r with at_ := n } ∧ Fr (only p) w wr)
  case atStart => exact ⟨r.at_, 0, Nat.le_refl _, hle, rfl, rfl, Nat.zero_le _, HAT.out, HH.out, Fr.refl _ _⟩
  case round =>
    obtain ⟨n, m, h1, h2, hk, rfl, hmn, hat, hr, hf⟩ := hrel
    have HK := Lib.hid hk
    have HA := Lib.hid hat
    have HR := Lib.hid hr
    have HF := Lib.hid hf
    clear hk hat hr hf
    by_cases hend : n = r.b.length
    · have HE := Lib.hid hend
      clear hend
      go_wp2_with fail
      refine (ended_yes HR.out HE.out).mono ?_
      rintro e w1 ⟨rfl, q, rfl⟩
      have hfin : Halts r.b (stopE (-1) ([m0, m0, 62].drop (min m 2) ++ Gm.closing r.o ++ Gm.rl r.root)) := by
        refine HA.out.ends HE.out ?_
        rw [HM.out.rest, HO.out, HRT.out]
      have HFIN := Lib.hid hfin
      clear hfin
      have hcase : m = 0 ∨ m = 1 ∨ 2 ≤ m := by omega
      rcases hcase with hm0 | hm1 | hm2
      · obtain rfl := hm0
        go_wp2_with fail
        refine (end_any (HR.out.fr0 (Fr.drewN _ _ _)) [m0, m0, 62] (by simp)).mono ?_
        rintro e w2 ⟨rfl, hf2⟩
        exact ⟨rfl, .inr ⟨HFIN.out, HF.out.trans ((Fr.drewN _ _ _).trans hf2).of0⟩⟩
      · obtain rfl := hm1
        go_wp2_with fail
        refine (end_any (HR.out.fr0 (Fr.drewN _ _ _)) [m0, 62] (by simp)).mono ?_
        rintro e w2 ⟨rfl, hf2⟩
        exact ⟨rfl, .inr ⟨HFIN.out, HF.out.trans ((Fr.drewN _ _ _).trans hf2).of0⟩⟩
      · have hmin : min m 2 = 2 := by omega
        have hF2 := HFIN.out
        rw [hmin] at hF2
        have HFIN2 := Lib.hid hF2
        clear hF2 hmin
        have hmin2 : min (m : Int) 2 = 2 := by omega
        go_wp2_with fail
        refine (end_any (HR.out.fr0 (Fr.drewN _ _ _)) [62] (by simp)).mono ?_
        rintro e w2 ⟨rfl, hf2⟩
        exact ⟨rfl, .inr ⟨HFIN2.out, HF.out.trans ((Fr.drewN _ _ _).trans hf2).of0⟩⟩
    · have hlt : n < r.b.length := by omega
      obtain ⟨bk, off, hao, hc⟩ := HR.out.byte hlt
      simp only at hao hc
      have c0 := HR.out.c0
      have c1 := HR.out.c1
      have f1 := HR.out.fz 1
      simp only at c0 c1
      rw [hao] at c0
      have hgs := getD_some hlt
      have HE := Lib.hid hend
      have HG := Lib.hid hgs
      have HL := Lib.hid hlt
      have htc := fun c (ht : Gm.Takes { s with st := mk m } c (r.b.getD n 0)) => HA.out.char hlt ht
      have HTC := Lib.hid htc
      clear hend hao hgs htc
      have hchar : ∀ w1, Fr S0 wr w1 → Calls Tryd.prog 29 #[.pointer (some ⟨p, 0, none⟩), .int .i64 0, .string ⟨#[m0, m0, 62]⟩] w1 (CharPost B w1 p { r with at_ := n } 0 [m0, m0, 62]) :=
        fun w1 hf => char_any (HR.out.fr0 hf) 0 (by omega) [m0, m0, 62] (by simp) HL.out
      have HCH := Lib.hid hchar
      clear hchar
      have hm0 := HM.out.m0_ne
      generalize hx : r.b.getD n 0 = x at hc HG HTC
      clear hx
      by_cases hm2 : 2 ≤ m
      · have gm : decide ((m : Int) ≥ 2) = true := by rw [decide_eq_true_iff]; omega
        by_cases hx62 : x = 62
        · subst hx62
          have hgo := HA.out.step HG.out (HM.out.goes m hm2)
          have HGO := Lib.hid hgo
          clear hgo
          have g1 : (((62 : UInt8).toNat : Int) == (((⟨#[m0, m0, 62]⟩ : ByteArray)[2]'(by show 2 < 3; omega)).toNat : Int)) = true := by rw [at2]; decide
          go_wp2_with fail
          refine (ended_no HR.out HE.out).mono ?_
          rintro e w1 ⟨rfl, q, rfl⟩
          go_wp2_with fail
          go_quiet (fail)
          go_wp2
          go_end0
          exact .inl ⟨rfl, n + 1, by omega, HGO.out, (HR.out.fr0 (Fr.drewN _ _ _)).moved (n + 1) (by simp) HL.out, (HF.out.trans (Fr.drewN _ _ _)).trans (Fr.setCell _ _ _ (.inl rfl))⟩
        · have g1 : ((x.toNat : Int) == (((⟨#[m0, m0, 62]⟩ : ByteArray)[2]'(by show 2 < 3; omega)).toNat : Int)) = false := by
            rw [at2, beq_eq_false_iff_ne]; intro e; exact hx62 (by rw [← UInt8.toNat_inj]; show x.toNat = 62; have : ((62 : UInt8).toNat : Int) = 62 := rfl; omega)
          cases strict with
          | true =>
            have hw := HA.out.wrong HG.out (HM.out.wrong m x rfl hm2 hx62)
            have HW := Lib.hid hw
            clear hw
            have HX := Lib.hid hx62
            clear hx62
            go_wp2_with fail
            refine (ended_no HR.out HE.out).mono ?_
            rintro e w1 ⟨rfl, q, rfl⟩
            go_wp2_with fail
            go_quiet (fail)
            go_wp2_with fail
            refine (wrong_any _ _).mono ?_
            rintro e w2 ⟨rfl, hf2⟩
            exact ⟨rfl, .inr ⟨HW.out, HF.out.trans ((Fr.drewN _ _ _).trans hf2).of0⟩⟩
          | false =>
            by_cases hxm : x = m0
            · subst hxm
              have hgo := HA.out.step HG.out (HM.out.more m (fun h => by cases h.2))
              have HGO := Lib.hid hgo
              clear hgo
              have g2 : ((x.toNat : Int) == (((⟨#[x, x, 62]⟩ : ByteArray)[0]'(by show 0 < 3; omega)).toNat : Int)) = true := by rw [at0]; simp
              have HX := Lib.hid hx62
              clear hx62
              go_wp2_with fail
              refine (ended_no HR.out HE.out).mono ?_
              rintro e w1 ⟨rfl, q, rfl⟩
              go_wp2_with fail
              go_quiet (fail)
              go_wp2_with fail
              go_quiet (fail)
              go_wp2
              go_roundg (r.b.length - (n + 1))
              case measure => rw [HK.out]; omega
              case rel => exact ⟨n + 1, m + 1, by omega, by omega, rfl, by go_num, by omega, HGO.out, (HR.out.fr0 (Fr.drewN _ _ _)).moved (n + 1) (by simp) HL.out, (HF.out.trans (Fr.drewN _ _ _)).trans (Fr.setCell _ _ _ (.inl rfl))⟩
            · have htk := HM.out.takes m x hxm (fun h => hx62 h.2) (fun h => by cases h.2)
              have hcut := fun q hq => HM.out.cut m q hq (fun h => by cases h.2)
              have HT := Lib.hid (HTC.out 0 htk)
              have HCUT := Lib.hid hcut
              have g2 : ((x.toNat : Int) == (((⟨#[m0, m0, 62]⟩ : ByteArray)[0]'(by show 0 < 3; omega)).toNat : Int)) = false := by
                rw [at0, beq_eq_false_iff_ne]; intro e; exact hxm (by rw [← UInt8.toNat_inj]; omega)
              clear hx62 hxm htk hcut
              go_wp2_with fail
              refine (ended_no HR.out HE.out).mono ?_
              rintro e w1 ⟨rfl, q, rfl⟩
              go_wp2_with fail
              go_quiet (fail)
              go_wp2_with fail
              go_quiet (fail)
              go_wp2_with fail
              refine (HCH.out _ (Fr.drewN _ _ _)).mono ?_
              rintro e w2 hpost
              unfold CharPost at hpost
              simp only at hpost
              cases hch : Gm.charN 0 [] (r.b.drop n) with
              | ok q =>
                rw [hch] at hpost
                obtain ⟨rfl, hR2, hF2⟩ := hpost
                have hq : 0 < q.length := by have := ((Gm.charN_spec 0 (r.b.drop n) [] (.inl rfl)).1 q hch).2.2.1; simpa using this
                have hq2 := hR2.at_le
                simp only at hq2
                have hak := HT.out.1 q hch
                rw [HM.out.took] at hak
                have HAK := Lib.hid hak
                have HR2 := Lib.hid hR2
                have HF2 := Lib.hid hF2
                clear hch hR2 hF2 hak
                go_wp2
                go_roundg (r.b.length - (n + q.length))
                case measure => rw [HK.out]; omega
                case rel => exact ⟨n + q.length, 0, by omega, hq2, rfl, rfl, Nat.zero_le _, HAK.out, HR2.out, HF.out.trans ((Fr.drewN _ _ _).trans HF2.out)⟩
              | bad k =>
                rw [hch] at hpost
                obtain ⟨rfl, hF2⟩ := hpost
                have hw := HT.out.2.1 k hch
                unfold stopE at hw ⊢
                exact ⟨rfl, .inr ⟨hw, HF.out.trans ((Fr.drewN _ _ _).trans hF2).of0⟩⟩
              | short q =>
                rw [hch] at hpost
                obtain ⟨rfl, hF2⟩ := hpost
                obtain ⟨hrun, hqn⟩ := HT.out.2.2 q hch
                have hw : Halts r.b (stopE (-1) (Gm.compl 0 q ++ [m0, m0, 62] ++ Gm.closing r.o ++ (if !r.root then [60, 65, 47, 62] else []))) := by
                  refine .inr ⟨_, hrun, ?_⟩
                  rw [HCUT.out q hqn, HO.out, HRT.out]
                  rfl
                unfold stopE at hw ⊢
                exact ⟨rfl, .inr ⟨hw, HF.out.trans ((Fr.drewN _ _ _).trans hF2).of0⟩⟩
      · have hm2' : m < 2 := by omega
        have gm : decide ((m : Int) ≥ 2) = false := by rw [decide_eq_false_iff_not]; omega
        by_cases hxm : x = m0
        · subst hxm
          have hgo := HA.out.step HG.out (HM.out.more m (fun h => hm2 h.1))
          have HGO := Lib.hid hgo
          clear hgo
          have g2 : ((x.toNat : Int) == (((⟨#[x, x, 62]⟩ : ByteArray)[0]'(by show 0 < 3; omega)).toNat : Int)) = true := by rw [at0]; simp
          have HX := Lib.hid hm2
          clear hm2
          go_wp2_with fail
          refine (ended_no HR.out HE.out).mono ?_
          rintro e w1 ⟨rfl, q, rfl⟩
          go_wp2_with fail
          go_quiet (fail)
          go_wp2_with fail
          go_quiet (fail)
          go_wp2
          go_roundg (r.b.length - (n + 1))
          case measure => rw [HK.out]; omega
          case rel => exact ⟨n + 1, m + 1, by omega, by omega, rfl, by go_num, by omega, HGO.out, (HR.out.fr0 (Fr.drewN _ _ _)).moved (n + 1) (by simp) HL.out, (HF.out.trans (Fr.drewN _ _ _)).trans (Fr.setCell _ _ _ (.inl rfl))⟩
        · have htk := HM.out.takes m x hxm (fun h => hm2 h.1) (fun h => hm2 h.1)
          have hcut := fun q hq => HM.out.cut m q hq (fun h => hm2 h.1)
          have HT := Lib.hid (HTC.out 0 htk)
          have HCUT := Lib.hid hcut
          have g2 : ((x.toNat : Int) == (((⟨#[m0, m0, 62]⟩ : ByteArray)[0]'(by show 0 < 3; omega)).toNat : Int)) = false := by
            rw [at0, beq_eq_false_iff_ne]; intro e; exact hxm (by rw [← UInt8.toNat_inj]; omega)
          clear hm2 hxm htk hcut
          go_wp2_with fail
          refine (ended_no HR.out HE.out).mono ?_
          rintro e w1 ⟨rfl, q, rfl⟩
          go_wp2_with fail
          go_quiet (fail)
          go_wp2_with fail
          go_quiet (fail)
          go_wp2_with fail
          refine (HCH.out _ (Fr.drewN _ _ _)).mono ?_
          rintro e w2 hpost
          unfold CharPost at hpost
          simp only at hpost
          cases hch : Gm.charN 0 [] (r.b.drop n) with
          | ok q =>
            rw [hch] at hpost
            obtain ⟨rfl, hR2, hF2⟩ := hpost
            have hq : 0 < q.length := by have := ((Gm.charN_spec 0 (r.b.drop n) [] (.inl rfl)).1 q hch).2.2.1; simpa using this
            have hq2 := hR2.at_le
            simp only at hq2
            have hak := HT.out.1 q hch
            rw [HM.out.took] at hak
            have HAK := Lib.hid hak
            have HR2 := Lib.hid hR2
            have HF2 := Lib.hid hF2
            clear hch hR2 hF2 hak
            go_wp2
            go_roundg (r.b.length - (n + q.length))
            case measure => rw [HK.out]; omega
            case rel => exact ⟨n + q.length, 0, by omega, hq2, rfl, rfl, Nat.zero_le _, HAK.out, HR2.out, HF.out.trans ((Fr.drewN _ _ _).trans HF2.out)⟩
          | bad k =>
            rw [hch] at hpost
            obtain ⟨rfl, hF2⟩ := hpost
            have hw := HT.out.2.1 k hch
            unfold stopE at hw ⊢
            exact ⟨rfl, .inr ⟨hw, HF.out.trans ((Fr.drewN _ _ _).trans hF2).of0⟩⟩
          | short q =>
            rw [hch] at hpost
            obtain ⟨rfl, hF2⟩ := hpost
            obtain ⟨hrun, hqn⟩ := HT.out.2.2 q hch
            have hw : Halts r.b (stopE (-1) (Gm.compl 0 q ++ [m0, m0, 62] ++ Gm.closing r.o ++ (if !r.root then [60, 65, 47, 62] else []))) := by
              refine .inr ⟨_, hrun, ?_⟩
              rw [HCUT.out q hqn, HO.out, HRT.out]
              rfl
            unfold stopE at hw ⊢
            exact ⟨rfl, .inr ⟨hw, HF.out.trans ((Fr.drewN _ _ _).trans hF2).of0⟩⟩
end Go.Proofs.YtghhakilkmbpdaaDoor
