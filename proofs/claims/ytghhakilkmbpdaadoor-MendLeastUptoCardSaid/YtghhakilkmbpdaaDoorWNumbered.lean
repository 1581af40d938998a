/- Walks: reader.numbered. -/
import Derived.Test.YtghhakilkmbpdaaDoorWNum
namespace Gm
/-- the state within a number -/
def numSt (q : Back) (hex : Bool) (v c : Nat) : St := if c = 0 ∧ hex = false then .hash q else .number q hex v c
theorem numSt_ne (q : Back) (hex : Bool) (v c : Nat) : (∀ l, numSt q hex v c ≠ .endName l) ∧ numSt q hex v c ≠ .less := by
  unfold numSt; split <;> simp
theorem digit_big {s : K} {q : Back} {hex : Bool} {v n : Nat} {x : UInt8} (hx : ¬ x.toNat < 128) : s.digit q hex v n x = none := by
  have h1 : digitOf hex x = none := by
    unfold digitOf
    rw [if_neg (by omega), if_neg (by omega), if_neg (by omega)]
  have h2 : ¬ x = 59 := by rintro rfl; simp at hx
  simp [K.digit, h1, h2]
theorem numSt_step (s : K) (hp : s.pend = []) (q : Back) (hex : Bool) (v c : Nat) (x : UInt8) (hx : c = 0 → hex = false → x ≠ 120) (hv : c = 0 → v = 0) :
    ({ s with st := numSt q hex v c } : K).step x = s.digit q hex v c x := by
  by_cases hb : x.toNat < 128
  · rw [step_ascii (s := { s with st := numSt q hex v c }) (fun y t => (numSt_ne q hex v c).1 _) hp hb]
    unfold numSt
    split
    · rename_i h
      have := hv h.1
      have h3 := h.1
      have h4 := h.2
      subst this h3 h4
      simp [K.ascii, hx rfl rfl, K.digit, K.back]
    · simp [K.ascii, K.digit, K.back]
  · rw [step_pend (s := { s with st := numSt q hex v c }) (fun y t => (numSt_ne q hex v c).1 _) (by simp [hb])]
    rw [digit_big hb]
    have : ({ s with st := numSt q hex v c } : K).cls = none := by unfold numSt; split <;> rfl
    rw [this]
theorem digit_num (s : K) (q : Back) (hex : Bool) (v c : Nat) (x : UInt8) (d : Nat) (h : digitOf hex x = some d) :
    s.digit q hex v c x = if v * base hex + d ≤ 0x10FFFF then some { s with st := numSt q hex (v * base hex + d) (c + 1) } else none := by
  unfold K.digit numSt
  rw [h]
  simp
theorem numberRest_zero : numberRest false 0 0 = [57, 59] := by decide +kernel
theorem numSt_rest (s : K) (hp : s.pend = []) (q : Back) (hex : Bool) (v c : Nat) (hv : c = 0 → v = 0) :
    ({ s with st := numSt q hex v c } : K).rest = numberRest hex v c ++ tagRest q ++ closing s.opn ++ rl s.root := by
  unfold numSt
  split
  · rename_i h
    have := hv h.1
    have h3 := h.1
    have h4 := h.2
    subst this h3 h4
    rw [numberRest_zero]
    simp [K.rest, K.within, K.left, K.rootless, rl]
  · simp [K.rest, K.within, K.left, K.rootless, rl]
end Gm
namespace Go.Proofs.YtghhakilkmbpdaaDoor
open Go Go.RowKit

theorem index_mem (l : Gm.Bs) (x : UInt8) (h : x ∈ l) : ∃ k, k < l.length ∧ Lib.indexByte l x = (k : Int) ∧ l.getD k 0 = x := by
  induction l with
  | nil => cases h
  | cons b l ih =>
    simp only [Lib.indexByte]
    split
    · rename_i e
      have : b = x := by simpa using e
      exact ⟨0, by simp, rfl, by simpa using this⟩
    · rename_i e
      have hb : ¬ b = x := by simpa using e
      obtain ⟨k, k1, k2, k3⟩ := ih (by rcases List.mem_cons.1 h with h | h; exact absurd h.symm hb; exact h)
      rw [k2]
      refine ⟨k + 1, by simp; omega, ?_, by simpa using k3⟩
      split
      · rename_i e2
        simp at e2
      · push_cast; rfl
theorem index_not (l : Gm.Bs) (x : UInt8) (h : ¬ x ∈ l) : Lib.indexByte l x = -1 := by
  have h1 := indexByte_ge l x
  have : ¬ 0 ≤ Lib.indexByte l x := fun e => h (h1.1.1 e)
  omega

theorem quiet_plus {P : Program} {f : FuncId} {args : Array Value} {w : World} {q n : Nat} {v : Value}
    (h : Calls P f args (w.drewN (q + n)) fun e w' => e = .returned v ∧ w' = w.drewN (q + n)) : Calls P f args (w.drewN (q + n)) fun e w'' => e = .returned v ∧ ∃ m, w'' = w.drewN (q + m) :=
  h.mono fun _ _ ⟨he, hm⟩ => ⟨he, n, hm⟩

theorem wp_grown {c : Code} {P : Program} {Q : Exit → Act → World → Prop} {a : Act} {w : World} {n : Nat} (h : ∀ W, Fr S0 w W → c.wp P Q a W) : c.wp P Q a (w.drewN n) := h _ (Fr.drewN _ _ _)



set_option maxRecDepth 100000 in
set_option maxHeartbeats 4000000 in
theorem numbered_any {B : Nat} {w : World} {p : Nat} {r : R} (h : Rd B w p r) {s : Gm.K} (q : Gm.Back) (hp : s.pend = []) (hat : AtK r.b r.at_ { s with st := .hash q })
    (ho : s.opn = r.o) (hroot : s.root = r.root) :
    Calls Tryd.prog 36 #[.pointer (some ⟨p, 0, none⟩), .string ⟨(Gm.tagRest q).toArray⟩] w (Goes B w p r (s.back q)) := by
  have hsm := h.small
  have hle := h.at_le
  have htr : (Gm.tagRest q).length ≤ 3 := by cases q <;> simp [Gm.tagRest]
  have HH := Lib.hid h
  have HP := Lib.hid hp
  have HO := Lib.hid ho
  have HRT := Lib.hid hroot
  have HAT0 := Lib.hid hat
  have hcat := cat_list
  have hs2 := size_list (Gm.tagRest q)
  clear h hp ho hroot hat
  go_enter Tryd.func36, Tryd.ntmps36
  by_cases hend : r.at_ = r.b.length
  · have HE := Lib.hid hend
    clear hend
    go_wp2_with fail
    refine (ended_yes HH.out HE.out).mono ?_
    rintro e w1 ⟨rfl, q', rfl⟩
    go_wp2_with fail
    refine (end_any (HH.out.fr0 (Fr.drewN _ _ _)) (57 :: 59 :: Gm.tagRest q) (by simp; omega)).mono ?_
    rintro e w3 ⟨rfl, hf3⟩
    refine ⟨rfl, .inr ⟨?_, ((Fr.drewN _ _ _).trans hf3).of0⟩⟩
    refine HAT0.out.ends HE.out ?_
    have := Gm.numSt_rest s HP.out q false 0 0 (fun _ => rfl)
    rw [Gm.numberRest_zero] at this
    refine this.trans ?_
    rw [HO.out, HRT.out]
    rfl
  · have HE := Lib.hid hend
    clear hend
    cases hi : isIt [120] r.b r.at_ with
    | true =>
      have hlt := isIt_lt hi
      have HI := Lib.hid hi
      clear hi
      go_wp2_with fail
      refine (ended_no HH.out HE.out).mono ?_
      rintro e w1 ⟨rfl, q', rfl⟩
      go_wp2_with fail
      refine (is_any (HH.out.fr0 (Fr.drewN _ _ _)) [120]).mono ?_
      simp only [HI.out]
      rintro e w2 ⟨rfl, q2, rfl⟩
      have c1 := HH.out.c1
      have f1 := HH.out.fz 1
      have HL0 := Lib.hid hlt
      have hat : AtK r.b (r.at_ + 1) { s with st := Gm.numSt q true 0 0 } := by
        refine HAT0.out.step (x := 120) ?_ ?_
        · have := HI.out
          unfold isIt at this
          split at this
          · rename_i x hx; rw [hx]; simpa using this
          · cases this
        · rw [Gm.step_ascii (s := { s with st := .hash q }) (by simp) HP.out (by decide)]
          simp [Gm.K.ascii, Gm.numSt]
      have HAT := Lib.hid hat
      clear hat hcat hs2
      go_wp2_with fail
      clear c1 f1
      go_loopg [6, 7] (r.b.length - (r.at_ + 1)) (fun k vv cv wr => ∃ n v c : Nat, r.at_ ≤ n ∧ n ≤ r.b.length ∧ k = r.b.length - n ∧ vv = .int .i64 v ∧ cv = .int .i64 c ∧ c ≤ n ∧ v ≤ 1114111 ∧
        (c = 0 → v = 0) ∧ (c = 0 → true = false → isIt [120] r.b n = false) ∧ AtK r.b n { s with st := Gm.numSt q true v c } ∧ Rd B wr p { r with at_ := n } ∧ Fr (only p) w wr)
      case atStart => exact ⟨_, 0, 0, by omega, HL0.out, rfl, rfl, rfl, Nat.zero_le _, by omega, fun _ => rfl, (fun _ e => by cases e), HAT.out, (HH.out.fr0 (Fr.drewN _ _ _)).moved (r.at_ + 1) (by simp) HL0.out, (Fr.drewN _ _ _).trans (Fr.setCell _ _ _ (.inl rfl))⟩
      case round =>
        obtain ⟨n, v, c, h1, h2, hk, rfl, rfl, hcn, hv, hc0, hcx, hat, hr, hf⟩ := hrel
        have HK := Lib.hid hk
        have HA := Lib.hid hat
        have HR := Lib.hid hr
        have HF := Lib.hid hf
        have HC0 := Lib.hid hc0
        have HCX := Lib.hid hcx
        clear hk hat hr hf hc0 hcx
        by_cases hend : n = r.b.length
        · have HE := Lib.hid hend
          have hnr : ∀ W, Env B W → Calls Tryd.prog 44 #[.int .i64 v, .int .i64 c, .string ⟨#[48, 49, 50, 51, 52, 53, 54, 55, 56, 57, 65, 66, 67, 68, 69, 70, 97, 98, 99, 100, 101, 102]⟩, .int .i64 16] W fun e w' => e = .returned (.string ⟨(Gm.numberRest true v c).toArray⟩) ∧ (Gm.numberRest true v c).length ≤ 5 ∧ Fr S0 W w' :=
            fun W hW => numberRest_any true v c hv HC0.out (by omega) W hW
          have HNR := Lib.hid hnr
          clear hend hnr
          go_wp2_with fail
          refine (ended_yes HR.out HE.out).mono ?_
          rintro e w1 ⟨rfl, q', rfl⟩
          go_wp2_with fail
          refine (HNR.out _ (HR.out.env.fr0 (Fr.drewN _ _ _))).mono ?_
          rintro e w2 ⟨rfl, hlen, hf2⟩
          have hfin : Halts r.b (stopE (-1) (Gm.numberRest true v c ++ Gm.tagRest q ++ Gm.closing r.o ++ Gm.rl r.root)) := by
            refine HA.out.ends HE.out ?_
            rw [Gm.numSt_rest s HP.out q true v c HC0.out, HO.out, HRT.out]
          have HFIN := Lib.hid hfin
          have HF2 := Lib.hid hf2
          clear hfin hf2
          generalize Gm.numberRest true v c = nr at *
          have hcat := cat_list
          have hs1 := size_list nr
          have hs2 := size_list (Gm.tagRest q)
          go_wp2_with fail
          refine (end_any (HR.out.fr0 ((Fr.drewN _ _ _).trans HF2.out)) (nr ++ Gm.tagRest q) (by simp; omega)).mono ?_
          rintro e w3 ⟨rfl, hf3⟩
          exact ⟨rfl, .inr ⟨HFIN.out, HF.out.trans ((Fr.drewN _ _ _).trans (HF2.out.trans hf3)).of0⟩⟩
        · have hlt : n < r.b.length := by omega
          obtain ⟨bk, off, hao, hc⟩ := HR.out.byte hlt
          simp only at hao hc
          have c0 := HR.out.c0
          have c1 := HR.out.c1
          have f1 := HR.out.fz 1
          simp only at c0 c1
          rw [hao] at c0
          have hgs := getD_some hlt
          have HE := Lib.hid hend
          have HG := Lib.hid hgs
          have HL := Lib.hid hlt
          have hnx : c = 0 → true = false → r.b.getD n 0 ≠ 120 := by
            intro e1 e2 e3
            have := HCX.out e1 e2
            unfold isIt at this
            rw [hgs, e3] at this
            simp at this
          have HNX := Lib.hid hnx
          clear hend hao hgs hnx
          generalize hx : r.b.getD n 0 = x at hc HG HNX
          clear hx
          have hst := Gm.numSt_step s HP.out q true v c x HNX.out HC0.out
          have hx1 : ((x.toNat : Int)).toNat.toUInt8 = x := by simp
          have hidx : ∀ W, Calls Tryd.prog 24 #[.string ⟨#[48, 49, 50, 51, 52, 53, 54, 55, 56, 57, 65, 66, 67, 68, 69, 70, 97, 98, 99, 100, 101, 102]⟩, .int .u8 x.toNat] W fun e w' => e = .returned (.int .i64 (Lib.indexByte (Gm.dg true) ((x.toNat : Int)).toNat.toUInt8)) ∧ w' = W := Tryd.strings_IndexByte ⟨(Gm.dg true).toArray⟩ x.toNat
          rw [hx1] at hidx
          have HST := Lib.hid hst
          have HI := Lib.hid hidx
          clear hx1 hidx hst
          cases hd : Gm.digitOf true x with
          | some d =>
            have hmem : x ∈ Gm.dg true := by rw [← Gm.dg_mem, hd]; rfl
            obtain ⟨k, k1, k2, k3⟩ := index_mem _ _ hmem
            have hst := HST.out
            rw [Gm.digit_num s q true v c x d hd, show Gm.base true = 16 from rfl] at hst
            have hval : ∀ (h : k < (⟨#[48, 49, 50, 51, 52, 53, 54, 55, 56, 57, 65, 66, 67, 68, 69, 70, 97, 98, 99, 100, 101, 102]⟩ : ByteArray).size) W, Calls Tryd.prog 45 #[.int .u8 ((⟨#[48, 49, 50, 51, 52, 53, 54, 55, 56, 57, 65, 66, 67, 68, 69, 70, 97, 98, 99, 100, 101, 102]⟩ : ByteArray)[k]'h).toNat] W fun e w' => e = .returned (.int .i64 d) ∧ w' = W := fun h W => by
              have := at_list (Gm.dg true) k h
              rw [k3] at this
              show Calls Tryd.prog 45 #[.int .u8 ((⟨(Gm.dg true).toArray⟩ : ByteArray)[k]'h).toNat] W _
              rw [this]
              exact value_any true _ d hd W
            have hidx : ∀ W, Calls Tryd.prog 24 #[.string ⟨#[48, 49, 50, 51, 52, 53, 54, 55, 56, 57, 65, 66, 67, 68, 69, 70, 97, 98, 99, 100, 101, 102]⟩, .int .u8 x.toNat] W fun e w' => e = .returned (.int .i64 k) ∧ w' = W := fun W => (HI.out W).mono (by rw [← k2]; exact fun _ _ h => h)
            have HV := Lib.hid hval
            have HIX := Lib.hid hidx
            have HS := Lib.hid hst
            clear hmem k2 k3 hst hval hidx
            have hsz : (⟨#[48, 49, 50, 51, 52, 53, 54, 55, 56, 57, 65, 66, 67, 68, 69, 70, 97, 98, 99, 100, 101, 102]⟩ : ByteArray).size = (Gm.dg true).length := rfl
            have hvb : v * 16 ≤ 1114111 * 16 := Nat.mul_le_mul hv (by decide)
            have hd16 : d < 16 := by
              unfold Gm.digitOf at hd
              repeat' split at hd
              all_goals simp at hd
              all_goals omega
            have hval2 : ((v : Int) * 16 + (d : Int)) = ((v * 16 + d : Nat) : Int) := by push_cast; rfl
            clear hd
            generalize hvd : v * 16 + d = vd at *
            go_wp2_with fail
            refine (ended_no HR.out HE.out).mono ?_
            rintro e w1 ⟨rfl, q', rfl⟩
            go_wp2_with fail
            go_quiet ((go_at_call 24; exact quiet_plus (HIX.out _)))
            go_wp2_with fail
            refine (HV.out _ _).mono ?_
            rintro e w2 ⟨rfl, rfl⟩
            by_cases hle : vd ≤ 1114111
            · have hs := HS.out
              rw [if_pos hle] at hs
              have hak := HA.out.step HG.out hs
              have HAK := Lib.hid hak
              clear hs hak
              go_wp2
              go_roundg (r.b.length - (n + 1))
              case measure => rw [HK.out]; omega
              case rel => exact ⟨n + 1, vd, c + 1, by omega, by omega, rfl, by go_num, by go_num, by omega, hle, fun e => by omega, fun e => by omega, HAK.out, (HR.out.fr0 (Fr.drewN _ _ _)).moved (n + 1) (by simp) HL.out, (HF.out.trans (Fr.drewN _ _ _)).trans (Fr.setCell _ _ _ (.inl rfl))⟩
            · have hs := HS.out
              rw [if_neg hle] at hs
              have hw := HA.out.wrong HG.out hs
              have HW := Lib.hid hw
              clear hs hw
              go_wp2_with fail
              refine (wrong_any _ _).mono ?_
              rintro e w2 ⟨rfl, hf2⟩
              exact ⟨rfl, .inr ⟨HW.out, HF.out.trans ((Fr.drewN _ _ _).trans hf2).of0⟩⟩
          | none =>
            have hmem : ¬ x ∈ Gm.dg true := by rw [← Gm.dg_mem, hd]; simp
            have hidx : ∀ W, Calls Tryd.prog 24 #[.string ⟨#[48, 49, 50, 51, 52, 53, 54, 55, 56, 57, 65, 66, 67, 68, 69, 70, 97, 98, 99, 100, 101, 102]⟩, .int .u8 x.toNat] W fun e w' => e = .returned (.int .i64 (-1)) ∧ w' = W := fun W => (HI.out W).mono (by rw [← index_not _ _ hmem]; exact fun _ _ h => h)
            have hst := HST.out
            unfold Gm.K.digit at hst
            rw [hd] at hst
            simp only at hst
            have HIX := Lib.hid hidx
            have HS := Lib.hid hst
            clear hidx hst hmem hd
            go_wp2_with fail
            refine (ended_no HR.out HE.out).mono ?_
            rintro e w1 ⟨rfl, q', rfl⟩
            go_wp2_with fail
            go_quiet ((go_at_call 24; exact quiet_plus (HIX.out _)))
            go_wp2_with fail
            refine wp_grown ?_
            intro W1 HW1
            have HWW := Lib.hid HW1
            have c0 := (HW1.cell (lt_of_cell c0) (fun h => h)).trans c0
            have c1 := (HW1.cell (lt_of_cell c1) (fun h => h)).trans c1
            have hc := (HW1.cell (lt_of_cell hc) (fun h => h)).trans hc
            clear HW1
            have u0 : ∀ i : Ext W1, (up i).cell? ⟨p, 0, none⟩ = some (.slice (some ⟨bk, off, none⟩) r.b.length r.cap) := fun i => ((up_fr i).cell (lt_of_cell c0) (fun h => h)).trans c0
            have u1 : ∀ i : Ext W1, (up i).cell? ⟨p, 1, none⟩ = some (.int .i64 n) := fun i => ((up_fr i).cell (lt_of_cell c1) (fun h => h)).trans c1
            have u2 : ∀ i : Ext W1, (up i).cell? ⟨bk, off + n, none⟩ = some (.int .u8 x.toNat) := fun i => ((up_fr i).cell (lt_of_cell hc) (fun h => h)).trans hc
            have his : ∀ i : Ext W1, Calls Tryd.prog 46 #[.int .i64 0, .int .i32 v] (up i) fun e w' => e = .returned (.bool (Gm.isC 0 v)) ∧ Fr S0 (up i) w' := fun i => Is_any 0 (by omega) v _ (HR.out.env.fr0 (HWW.out.trans (up_fr i)))
            have HIS := Lib.hid his
            clear his c0 c1 hc
            by_cases hx59 : x = 59
            · have g1 : ((x.toNat : Int) != 59) = false := by rw [hx59]; rfl
              by_cases hcz : c = 0
              · have g2 : ((c : Int) == 0) = true := by rw [hcz]; rfl
                have hs := HS.out
                rw [if_neg (fun h => h.2.1 hcz)] at hs
                have hw := HA.out.wrong HG.out hs
                have HW := Lib.hid hw
                clear hs hw hcz
                refine wp_region_up (by kernel_rfl) (by kernel_rfl) ?_
                repeat (first | go_big_quiet_step (first | (go_at_call 46; exact calls_up (HIS.out _))) | quiet_step (first | (go_at_call 46; exact calls_up (HIS.out _))))
                refine wpQuiet_nil ?_
                rintro _ ⟨⟨w2, HF2⟩, rfl⟩
                try dsimp only [up]
                have c1 := (HR.out.fr0 (HWW.out.trans HF2)).c1
                simp only at c1
                go_wp2_with fail
                refine (wrong_any _ _).mono ?_
                rintro e w3 ⟨rfl, hf3⟩
                exact ⟨rfl, .inr ⟨HW.out, HF.out.trans (HWW.out.trans (HF2.trans hf3)).of0⟩⟩
              · have g2 : ((c : Int) == 0) = false := by rw [beq_eq_false_iff_ne]; omega
                cases hic : Gm.isC 0 v with
                | false =>
                  have his := HIS.out
                  rw [hic] at his
                  have HIS := Lib.hid his
                  clear his
                  have hs := HS.out
                  rw [if_neg (fun h => Bool.noConfusion (hic.symm.trans h.2.2))] at hs
                  have hw := HA.out.wrong HG.out hs
                  have HW := Lib.hid hw
                  clear hs hw hic
                  refine wp_region_up (by kernel_rfl) (by kernel_rfl) ?_
                  repeat (first | go_big_quiet_step (first | (go_at_call 46; exact calls_up (HIS.out _))) | quiet_step (first | (go_at_call 46; exact calls_up (HIS.out _))))
                  refine wpQuiet_nil ?_
                  rintro _ ⟨⟨w2, HF2⟩, rfl⟩
                  try dsimp only [up]
                  have c1 := (HR.out.fr0 (HWW.out.trans HF2)).c1
                  simp only at c1
                  go_wp2_with fail
                  refine (wrong_any _ _).mono ?_
                  rintro e w3 ⟨rfl, hf3⟩
                  exact ⟨rfl, .inr ⟨HW.out, HF.out.trans (HWW.out.trans (HF2.trans hf3)).of0⟩⟩
                | true =>
                  have his := HIS.out
                  rw [hic] at his
                  have hs := HS.out
                  rw [if_pos ⟨hx59, hcz, hic⟩] at hs
                  have hak := HA.out.step HG.out hs
                  have HAK := Lib.hid hak
                  have HIS := Lib.hid his
                  clear his hx59 hcz hic hs hak
                  refine wp_region_up (by kernel_rfl) (by kernel_rfl) ?_
                  repeat (first | go_big_quiet_step (first | (go_at_call 46; exact calls_up (HIS.out _))) | quiet_step (first | (go_at_call 46; exact calls_up (HIS.out _))))
                  refine wpQuiet_nil ?_
                  rintro _ ⟨⟨w2, HF2⟩, rfl⟩
                  try dsimp only [up]
                  have hr2 := HR.out.fr0 (HWW.out.trans HF2)
                  have c1 := hr2.c1
                  have f1 := hr2.fz 1
                  simp only at c1
                  have HR2 := Lib.hid hr2
                  clear hr2
                  go_wp2
                  go_end0
                  exact .inl ⟨rfl, n + 1, by omega, HAK.out, HR2.out.moved (n + 1) (by simp) HL.out, (HF.out.trans (HWW.out.trans HF2).of0).trans (Fr.setCell _ _ _ (.inl rfl))⟩
            · have g1 : ((x.toNat : Int) != 59) = true := by
                rw [bne_iff_ne]; intro e; exact hx59 (by rw [← UInt8.toNat_inj]; show x.toNat = 59; omega)
              have hs := HS.out
              rw [if_neg (fun h => hx59 h.1)] at hs
              have hw := HA.out.wrong HG.out hs
              have HW := Lib.hid hw
              clear hs hw hx59
              refine wp_region_up (by kernel_rfl) (by kernel_rfl) ?_
              repeat (first | go_big_quiet_step (first | (go_at_call 46; exact calls_up (HIS.out _))) | quiet_step (first | (go_at_call 46; exact calls_up (HIS.out _))))
              refine wpQuiet_nil ?_
              rintro _ ⟨⟨w2, HF2⟩, rfl⟩
              try dsimp only [up]
              have c1 := (HR.out.fr0 (HWW.out.trans HF2)).c1
              simp only at c1
              go_wp2_with fail
              refine (wrong_any _ _).mono ?_
              rintro e w3 ⟨rfl, hf3⟩
              exact ⟨rfl, .inr ⟨HW.out, HF.out.trans (HWW.out.trans (HF2.trans hf3)).of0⟩⟩
    | false =>
      have HI := Lib.hid hi
      clear hi
      go_wp2_with fail
      refine (ended_no HH.out HE.out).mono ?_
      rintro e w1 ⟨rfl, q', rfl⟩
      go_wp2_with fail
      refine (is_any (HH.out.fr0 (Fr.drewN _ _ _)) [120]).mono ?_
      simp only [HI.out]
      rintro e w2 ⟨rfl, q2, rfl⟩
      have hat : AtK r.b r.at_ { s with st := Gm.numSt q false 0 0 } := HAT0.out
      have HAT := Lib.hid hat
      clear hat hcat hs2
      go_wp2_with fail
      go_loopg [6, 7] (r.b.length - r.at_) (fun k vv cv wr => ∃ n v c : Nat, r.at_ ≤ n ∧ n ≤ r.b.length ∧ k = r.b.length - n ∧ vv = .int .i64 v ∧ cv = .int .i64 c ∧ c ≤ n ∧ v ≤ 1114111 ∧
        (c = 0 → v = 0) ∧ (c = 0 → false = false → isIt [120] r.b n = false) ∧ AtK r.b n { s with st := Gm.numSt q false v c } ∧ Rd B wr p { r with at_ := n } ∧ Fr (only p) w wr)
      case atStart => exact ⟨_, 0, 0, Nat.le_refl _, hle, rfl, rfl, rfl, Nat.zero_le _, by omega, fun _ => rfl, (fun _ _ => HI.out), HAT.out, HH.out.fr0 (Fr.drewN _ _ _), Fr.drewN _ _ _⟩
      case round =>
        obtain ⟨n, v, c, h1, h2, hk, rfl, rfl, hcn, hv, hc0, hcx, hat, hr, hf⟩ := hrel
        have HK := Lib.hid hk
        have HA := Lib.hid hat
        have HR := Lib.hid hr
        have HF := Lib.hid hf
        have HC0 := Lib.hid hc0
        have HCX := Lib.hid hcx
        clear hk hat hr hf hc0 hcx
        by_cases hend : n = r.b.length
        · have HE := Lib.hid hend
          have hnr : ∀ W, Env B W → Calls Tryd.prog 44 #[.int .i64 v, .int .i64 c, .string ⟨#[48, 49, 50, 51, 52, 53, 54, 55, 56, 57]⟩, .int .i64 10] W fun e w' => e = .returned (.string ⟨(Gm.numberRest false v c).toArray⟩) ∧ (Gm.numberRest false v c).length ≤ 5 ∧ Fr S0 W w' :=
            fun W hW => numberRest_any false v c hv HC0.out (by omega) W hW
          have HNR := Lib.hid hnr
          clear hend hnr
          go_wp2_with fail
          refine (ended_yes HR.out HE.out).mono ?_
          rintro e w1 ⟨rfl, q', rfl⟩
          go_wp2_with fail
          refine (HNR.out _ (HR.out.env.fr0 (Fr.drewN _ _ _))).mono ?_
          rintro e w2 ⟨rfl, hlen, hf2⟩
          have hfin : Halts r.b (stopE (-1) (Gm.numberRest false v c ++ Gm.tagRest q ++ Gm.closing r.o ++ Gm.rl r.root)) := by
            refine HA.out.ends HE.out ?_
            rw [Gm.numSt_rest s HP.out q false v c HC0.out, HO.out, HRT.out]
          have HFIN := Lib.hid hfin
          have HF2 := Lib.hid hf2
          clear hfin hf2
          generalize Gm.numberRest false v c = nr at *
          have hcat := cat_list
          have hs1 := size_list nr
          have hs2 := size_list (Gm.tagRest q)
          go_wp2_with fail
          refine (end_any (HR.out.fr0 ((Fr.drewN _ _ _).trans HF2.out)) (nr ++ Gm.tagRest q) (by simp; omega)).mono ?_
          rintro e w3 ⟨rfl, hf3⟩
          exact ⟨rfl, .inr ⟨HFIN.out, HF.out.trans ((Fr.drewN _ _ _).trans (HF2.out.trans hf3)).of0⟩⟩
        · have hlt : n < r.b.length := by omega
          obtain ⟨bk, off, hao, hc⟩ := HR.out.byte hlt
          simp only at hao hc
          have c0 := HR.out.c0
          have c1 := HR.out.c1
          have f1 := HR.out.fz 1
          simp only at c0 c1
          rw [hao] at c0
          have hgs := getD_some hlt
          have HE := Lib.hid hend
          have HG := Lib.hid hgs
          have HL := Lib.hid hlt
          have hnx : c = 0 → false = false → r.b.getD n 0 ≠ 120 := by
            intro e1 e2 e3
            have := HCX.out e1 e2
            unfold isIt at this
            rw [hgs, e3] at this
            simp at this
          have HNX := Lib.hid hnx
          clear hend hao hgs hnx
          generalize hx : r.b.getD n 0 = x at hc HG HNX
          clear hx
          have hst := Gm.numSt_step s HP.out q false v c x HNX.out HC0.out
          have hx1 : ((x.toNat : Int)).toNat.toUInt8 = x := by simp
          have hidx : ∀ W, Calls Tryd.prog 24 #[.string ⟨#[48, 49, 50, 51, 52, 53, 54, 55, 56, 57]⟩, .int .u8 x.toNat] W fun e w' => e = .returned (.int .i64 (Lib.indexByte (Gm.dg false) ((x.toNat : Int)).toNat.toUInt8)) ∧ w' = W := Tryd.strings_IndexByte ⟨(Gm.dg false).toArray⟩ x.toNat
          rw [hx1] at hidx
          have HST := Lib.hid hst
          have HI := Lib.hid hidx
          clear hx1 hidx hst
          cases hd : Gm.digitOf false x with
          | some d =>
            have hmem : x ∈ Gm.dg false := by rw [← Gm.dg_mem, hd]; rfl
            obtain ⟨k, k1, k2, k3⟩ := index_mem _ _ hmem
            have hst := HST.out
            rw [Gm.digit_num s q false v c x d hd, show Gm.base false = 10 from rfl] at hst
            have hval : ∀ (h : k < (⟨#[48, 49, 50, 51, 52, 53, 54, 55, 56, 57]⟩ : ByteArray).size) W, Calls Tryd.prog 45 #[.int .u8 ((⟨#[48, 49, 50, 51, 52, 53, 54, 55, 56, 57]⟩ : ByteArray)[k]'h).toNat] W fun e w' => e = .returned (.int .i64 d) ∧ w' = W := fun h W => by
              have := at_list (Gm.dg false) k h
              rw [k3] at this
              show Calls Tryd.prog 45 #[.int .u8 ((⟨(Gm.dg false).toArray⟩ : ByteArray)[k]'h).toNat] W _
              rw [this]
              exact value_any false _ d hd W
            have hidx : ∀ W, Calls Tryd.prog 24 #[.string ⟨#[48, 49, 50, 51, 52, 53, 54, 55, 56, 57]⟩, .int .u8 x.toNat] W fun e w' => e = .returned (.int .i64 k) ∧ w' = W := fun W => (HI.out W).mono (by rw [← k2]; exact fun _ _ h => h)
            have HV := Lib.hid hval
            have HIX := Lib.hid hidx
            have HS := Lib.hid hst
            clear hmem k2 k3 hst hval hidx
            have hsz : (⟨#[48, 49, 50, 51, 52, 53, 54, 55, 56, 57]⟩ : ByteArray).size = (Gm.dg false).length := rfl
            have hvb : v * 10 ≤ 1114111 * 16 := Nat.mul_le_mul hv (by decide)
            have hd16 : d < 16 := by
              unfold Gm.digitOf at hd
              repeat' split at hd
              all_goals simp at hd
              all_goals omega
            have hval2 : ((v : Int) * 10 + (d : Int)) = ((v * 10 + d : Nat) : Int) := by push_cast; rfl
            clear hd
            generalize hvd : v * 10 + d = vd at *
            go_wp2_with fail
            refine (ended_no HR.out HE.out).mono ?_
            rintro e w1 ⟨rfl, q', rfl⟩
            go_wp2_with fail
            go_quiet ((go_at_call 24; exact quiet_plus (HIX.out _)))
            go_wp2_with fail
            refine (HV.out _ _).mono ?_
            rintro e w2 ⟨rfl, rfl⟩
            by_cases hle : vd ≤ 1114111
            · have hs := HS.out
              rw [if_pos hle] at hs
              have hak := HA.out.step HG.out hs
              have HAK := Lib.hid hak
              clear hs hak
              go_wp2
              go_roundg (r.b.length - (n + 1))
              case measure => rw [HK.out]; omega
              case rel => exact ⟨n + 1, vd, c + 1, by omega, by omega, rfl, by go_num, by go_num, by omega, hle, fun e => by omega, fun e => by omega, HAK.out, (HR.out.fr0 (Fr.drewN _ _ _)).moved (n + 1) (by simp) HL.out, (HF.out.trans (Fr.drewN _ _ _)).trans (Fr.setCell _ _ _ (.inl rfl))⟩
            · have hs := HS.out
              rw [if_neg hle] at hs
              have hw := HA.out.wrong HG.out hs
              have HW := Lib.hid hw
              clear hs hw
              go_wp2_with fail
              refine (wrong_any _ _).mono ?_
              rintro e w2 ⟨rfl, hf2⟩
              exact ⟨rfl, .inr ⟨HW.out, HF.out.trans ((Fr.drewN _ _ _).trans hf2).of0⟩⟩
          | none =>
            have hmem : ¬ x ∈ Gm.dg false := by rw [← Gm.dg_mem, hd]; simp
            have hidx : ∀ W, Calls Tryd.prog 24 #[.string ⟨#[48, 49, 50, 51, 52, 53, 54, 55, 56, 57]⟩, .int .u8 x.toNat] W fun e w' => e = .returned (.int .i64 (-1)) ∧ w' = W := fun W => (HI.out W).mono (by rw [← index_not _ _ hmem]; exact fun _ _ h => h)
            have hst := HST.out
            unfold Gm.K.digit at hst
            rw [hd] at hst
            simp only at hst
            have HIX := Lib.hid hidx
            have HS := Lib.hid hst
            clear hidx hst hmem hd
            go_wp2_with fail
            refine (ended_no HR.out HE.out).mono ?_
            rintro e w1 ⟨rfl, q', rfl⟩
            go_wp2_with fail
            go_quiet ((go_at_call 24; exact quiet_plus (HIX.out _)))
            go_wp2_with fail
            refine wp_grown ?_
            intro W1 HW1
            have HWW := Lib.hid HW1
            have c0 := (HW1.cell (lt_of_cell c0) (fun h => h)).trans c0
            have c1 := (HW1.cell (lt_of_cell c1) (fun h => h)).trans c1
            have hc := (HW1.cell (lt_of_cell hc) (fun h => h)).trans hc
            clear HW1
            have u0 : ∀ i : Ext W1, (up i).cell? ⟨p, 0, none⟩ = some (.slice (some ⟨bk, off, none⟩) r.b.length r.cap) := fun i => ((up_fr i).cell (lt_of_cell c0) (fun h => h)).trans c0
            have u1 : ∀ i : Ext W1, (up i).cell? ⟨p, 1, none⟩ = some (.int .i64 n) := fun i => ((up_fr i).cell (lt_of_cell c1) (fun h => h)).trans c1
            have u2 : ∀ i : Ext W1, (up i).cell? ⟨bk, off + n, none⟩ = some (.int .u8 x.toNat) := fun i => ((up_fr i).cell (lt_of_cell hc) (fun h => h)).trans hc
            have his : ∀ i : Ext W1, Calls Tryd.prog 46 #[.int .i64 0, .int .i32 v] (up i) fun e w' => e = .returned (.bool (Gm.isC 0 v)) ∧ Fr S0 (up i) w' := fun i => Is_any 0 (by omega) v _ (HR.out.env.fr0 (HWW.out.trans (up_fr i)))
            have HIS := Lib.hid his
            clear his c0 c1 hc
            by_cases hx59 : x = 59
            · have g1 : ((x.toNat : Int) != 59) = false := by rw [hx59]; rfl
              by_cases hcz : c = 0
              · have g2 : ((c : Int) == 0) = true := by rw [hcz]; rfl
                have hs := HS.out
                rw [if_neg (fun h => h.2.1 hcz)] at hs
                have hw := HA.out.wrong HG.out hs
                have HW := Lib.hid hw
                clear hs hw hcz
                refine wp_region_up (by kernel_rfl) (by kernel_rfl) ?_
                repeat (first | go_big_quiet_step (first | (go_at_call 46; exact calls_up (HIS.out _))) | quiet_step (first | (go_at_call 46; exact calls_up (HIS.out _))))
                refine wpQuiet_nil ?_
                rintro _ ⟨⟨w2, HF2⟩, rfl⟩
                try dsimp only [up]
                have c1 := (HR.out.fr0 (HWW.out.trans HF2)).c1
                simp only at c1
                go_wp2_with fail
                refine (wrong_any _ _).mono ?_
                rintro e w3 ⟨rfl, hf3⟩
                exact ⟨rfl, .inr ⟨HW.out, HF.out.trans (HWW.out.trans (HF2.trans hf3)).of0⟩⟩
              · have g2 : ((c : Int) == 0) = false := by rw [beq_eq_false_iff_ne]; omega
                cases hic : Gm.isC 0 v with
                | false =>
                  have his := HIS.out
                  rw [hic] at his
                  have HIS := Lib.hid his
                  clear his
                  have hs := HS.out
                  rw [if_neg (fun h => Bool.noConfusion (hic.symm.trans h.2.2))] at hs
                  have hw := HA.out.wrong HG.out hs
                  have HW := Lib.hid hw
                  clear hs hw hic
                  refine wp_region_up (by kernel_rfl) (by kernel_rfl) ?_
                  repeat (first | go_big_quiet_step (first | (go_at_call 46; exact calls_up (HIS.out _))) | quiet_step (first | (go_at_call 46; exact calls_up (HIS.out _))))
                  refine wpQuiet_nil ?_
                  rintro _ ⟨⟨w2, HF2⟩, rfl⟩
                  try dsimp only [up]
                  have c1 := (HR.out.fr0 (HWW.out.trans HF2)).c1
                  simp only at c1
                  go_wp2_with fail
                  refine (wrong_any _ _).mono ?_
                  rintro e w3 ⟨rfl, hf3⟩
                  exact ⟨rfl, .inr ⟨HW.out, HF.out.trans (HWW.out.trans (HF2.trans hf3)).of0⟩⟩
                | true =>
                  have his := HIS.out
                  rw [hic] at his
                  have hs := HS.out
                  rw [if_pos ⟨hx59, hcz, hic⟩] at hs
                  have hak := HA.out.step HG.out hs
                  have HAK := Lib.hid hak
                  have HIS := Lib.hid his
                  clear his hx59 hcz hic hs hak
                  refine wp_region_up (by kernel_rfl) (by kernel_rfl) ?_
                  repeat (first | go_big_quiet_step (first | (go_at_call 46; exact calls_up (HIS.out _))) | quiet_step (first | (go_at_call 46; exact calls_up (HIS.out _))))
                  refine wpQuiet_nil ?_
                  rintro _ ⟨⟨w2, HF2⟩, rfl⟩
                  try dsimp only [up]
                  have hr2 := HR.out.fr0 (HWW.out.trans HF2)
                  have c1 := hr2.c1
                  have f1 := hr2.fz 1
                  simp only at c1
                  have HR2 := Lib.hid hr2
                  clear hr2
                  go_wp2
                  go_end0
                  exact .inl ⟨rfl, n + 1, by omega, HAK.out, HR2.out.moved (n + 1) (by simp) HL.out, (HF.out.trans (HWW.out.trans HF2).of0).trans (Fr.setCell _ _ _ (.inl rfl))⟩
            · have g1 : ((x.toNat : Int) != 59) = true := by
                rw [bne_iff_ne]; intro e; exact hx59 (by rw [← UInt8.toNat_inj]; show x.toNat = 59; omega)
              have hs := HS.out
              rw [if_neg (fun h => hx59 h.1)] at hs
              have hw := HA.out.wrong HG.out hs
              have HW := Lib.hid hw
              clear hs hw hx59
              refine wp_region_up (by kernel_rfl) (by kernel_rfl) ?_
              repeat (first | go_big_quiet_step (first | (go_at_call 46; exact calls_up (HIS.out _))) | quiet_step (first | (go_at_call 46; exact calls_up (HIS.out _))))
              refine wpQuiet_nil ?_
              rintro _ ⟨⟨w2, HF2⟩, rfl⟩
              try dsimp only [up]
              have c1 := (HR.out.fr0 (HWW.out.trans HF2)).c1
              simp only at c1
              go_wp2_with fail
              refine (wrong_any _ _).mono ?_
              rintro e w3 ⟨rfl, hf3⟩
              exact ⟨rfl, .inr ⟨HW.out, HF.out.trans (HWW.out.trans (HF2.trans hf3)).of0⟩⟩
end Go.Proofs.YtghhakilkmbpdaaDoor
