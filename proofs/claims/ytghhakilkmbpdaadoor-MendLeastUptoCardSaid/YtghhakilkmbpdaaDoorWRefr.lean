/- Walks: reader.reference. -/
import Derived.Test.YtghhakilkmbpdaaDoorWNumbered
namespace Gm
theorem named_rest (s : K) (hp : s.pend = []) (q : Back) (t : Bs) : ({ s with st := .named q t } : K).rest = namedRest t ++ tagRest q ++ closing s.opn ++ rl s.root := by
  simp [K.rest, K.within, K.left, K.rootless, rl, namedRest]
theorem named_st (s : K) (hp : s.pend = []) (q : Back) (t : Bs) (x : UInt8) : ({ s with st := .named q t } : K).step x =
    if t = [] ∧ x = 35 then some { s with st := .hash q }
    else if x = 59 then (if t ∈ names then some (s.back q) else none)
    else if names.any (fun m => (t ++ [x]).isPrefixOf m) then some { s with st := .named q (t ++ [x]) } else none := by
  by_cases hb : x.toNat < 128
  · rw [step_ascii (s := { s with st := .named q t }) (by simp) hp hb]
    rfl
  · rw [step_pend (s := { s with st := .named q t }) (by simp) (by simp [hb])]
    simp only [K.cls]
    have h1 : ¬ x = 35 := by rintro rfl; simp at hb
    have h2 : ¬ x = 59 := by rintro rfl; simp at hb
    rw [if_neg (fun h => h1 h.2), if_neg h2, if_neg]
    intro h
    obtain ⟨m, hm, hpre⟩ := any_prefix h
    have hx : x ∈ m := hpre.subset (by simp)
    have : ∀ m ∈ names, ∀ y ∈ m, y.toNat < 128 := by decide
    exact hb (this m hm x hx)
end Gm
namespace Go.Proofs.YtghhakilkmbpdaaDoor
open Go Go.RowKit

theorem calls_gen {P : Program} {f : FuncId} {args : Array Value} {Q : Ending → World → Prop} {W : World} (C : World → Prop) (hc : C W) (h : ∀ W', C W' → Calls P f args W' Q) : Calls P f args W Q := h _ hc
theorem wp_gen {c : Code} {P : Program} {Q : Exit → Act → World → Prop} {a : Act} {W : World} (C : World → Prop) (hc : C W) (h : ∀ W', C W' → c.wp P Q a W') : c.wp P Q a W := h _ hc

theorem Halts.form {b : Gm.Bs} {e : Ending} (h : Halts b e) : ∃ n r, e = stopE n r := by
  rcases h with ⟨n, s, x, h, _⟩ | ⟨s, _, h⟩
  · exact ⟨_, _, h⟩
  · exact ⟨_, _, h⟩

theorem hasPrefix_eq (m t : Gm.Bs) : Lib.hasPrefix m t = t.isPrefixOf m := by
  rfl

theorem at_alloc (W : World) (c : Array Value) (ty : Nat) (i : Nat) : (W.alloc (.cells c ty)).cell? ⟨W.heap.size, i, none⟩ = c[i]? := by
  simp [World.cell?, World.alloc, -World.alloc_eq]

theorem toList_list (l : Gm.Bs) : (⟨l.toArray⟩ : ByteArray).toList = l := by
  have := beq_toListBytes
  rw [ByteArray.toList_eq]
theorem ext_drop (m : Gm.Bs) (a b : Nat) : (⟨m.toArray⟩ : ByteArray).extract (a + b - a) m.length = ⟨(m.drop b).toArray⟩ := by
  rw [Nat.add_sub_cancel_left]
  ext1
  simp
  exact List.take_of_length_le (by simp)
theorem leastLeft_drop (t lf : Gm.Bs) (i : Nat) (hi : i < 5) : Gm.leastLeft t (Gm.namesS.drop i) lf =
    Gm.leastLeft t (Gm.namesS.drop (i + 1)) (if t.isPrefixOf (Gm.namesS.getD i []) ∧ (lf = [] ∨ (Gm.namesS.getD i []).length - t.length < lf.length) then (Gm.namesS.getD i []).drop t.length else lf) := by
  match i, hi with
  | 0, _ | 1, _ | 2, _ | 3, _ | 4, _ => rfl
theorem namesS_len (i : Nat) : (Gm.namesS.getD i []).length ≤ 5 := by
  match i with
  | 0 | 1 | 2 | 3 | 4 => decide
  | n + 5 => simp [Gm.namesS, List.getD]
theorem names_len (i : Nat) : (Gm.names.getD i []).length ≤ 4 := by
  match i with
  | 0 | 1 | 2 | 3 | 4 => decide
  | n + 5 => simp [Gm.names, List.getD]
theorem any_drop (f : Gm.Bs → Bool) (l : List Gm.Bs) (i : Nat) (hi : i < l.length) : (l.take (i + 1)).any f = ((l.take i).any f || f (l.getD i [])) := by
  rw [List.take_succ_eq_append_getElem hi, List.any_append]
  simp [List.getD, hi]
/-- a name's beginning without its semicolon is one of it with -/
theorem any_semi (t : Gm.Bs) (h : ¬ (59 : UInt8) ∈ t) : Gm.namesS.any (fun m => t.isPrefixOf m) = Gm.names.any (fun m => t.isPrefixOf m) := by
  have : ∀ m : Gm.Bs, t.isPrefixOf (m ++ [59]) = t.isPrefixOf m := by
    intro m
    rw [Bool.eq_iff_iff, List.isPrefixOf_iff_prefix, List.isPrefixOf_iff_prefix]
    constructor
    · intro hp
      rcases List.prefix_concat_iff.1 hp with e | e
      · exact absurd (by rw [e]; simp) h
      · exact e
    · intro hp
      exact hp.trans (List.prefix_append _ _)
  show (Gm.names.map (· ++ [59])).any (fun m => t.isPrefixOf m) = _
  rw [List.any_map]
  congr 1
  funext m
  exact this m
theorem no_semi {t : Gm.Bs} (h : ∃ m ∈ Gm.names, t <+: m) : ¬ (59 : UInt8) ∈ t := by
  obtain ⟨m, hm, hp⟩ := h
  intro h59
  have h1 := hp.subset h59
  have : ∀ m ∈ Gm.names, ¬ (59 : UInt8) ∈ m := by decide
  exact this m hm h1

set_option maxRecDepth 100000 in
set_option maxHeartbeats 4000000 in
theorem reference_any {B : Nat} {w : World} {p : Nat} {r : R} (h : Rd B w p r) {s : Gm.K} (q : Gm.Back) (hp : s.pend = []) (hlt : r.at_ < r.b.length) (hat : AtK r.b (r.at_ + 1) { s with st := .named q [] })
    (ho : s.opn = r.o) (hroot : s.root = r.root) :
    Calls Tryd.prog 28 #[.pointer (some ⟨p, 0, none⟩), .string ⟨(Gm.tagRest q).toArray⟩] w (Goes B w p r (s.back q)) := by
  have hsm := h.small
  have hlc := h.lcap
  have hbc := h.bcap
  have htr : (Gm.tagRest q).length ≤ 3 := by cases q <;> simp [Gm.tagRest]
  have HP := Lib.hid hp
  have HO := Lib.hid ho
  have HRT := Lib.hid hroot
  have HAT0 := Lib.hid hat
  have hcat := cat_list
  have hs2 := size_list (Gm.tagRest q)
  have c1 := h.c1
  have f1 := h.fz 1
  have hr0 := fun W (hf : Fr (only p) w W) => True
  have HH := Lib.hid h
  clear h hp ho hroot hat hr0
  go_enter Tryd.func28, Tryd.ntmps28
  go_wp2_with fail
  have HL0 := Lib.hid hlt
  have hfr : r.at_ + 1 ≤ r.b.length := hlt
  refine calls_gen (fun W => Rd B W p { r with at_ := r.at_ + 1 } ∧ Fr (only p) w W) ⟨HH.out.moved (r.at_ + 1) (by omega) HL0.out, Fr.setCell _ _ _ (.inl rfl)⟩ ?_
  clear c1 f1 hlt
  rintro w1 ⟨hr1, hf1⟩
  have hle1 : r.at_ < r.at_ + 1 := by omega
  have HLE1 := Lib.hid hle1
  clear hle1
  generalize hfrom : r.at_ + 1 = fr at *
  have HFROM := Lib.hid hfrom
  have HR1 := Lib.hid hr1
  have HF1 := Lib.hid hf1
  clear hfrom hr1 hf1
  by_cases hend : fr = r.b.length
  · have HE := Lib.hid hend
    clear hend
    go_wp2_with fail
    refine (ended_yes HR1.out HE.out).mono ?_
    rintro e w2 ⟨rfl, q', rfl⟩
    go_wp2_with fail
    refine (end_any (HR1.out.fr0 (Fr.drewN _ _ _)) (35 :: 57 :: 59 :: Gm.tagRest q) (by simp; omega)).mono ?_
    rintro e w3 ⟨rfl, hf3⟩
    refine ⟨rfl, .inr ⟨?_, HF1.out.trans ((Fr.drewN _ _ _).trans hf3).of0⟩⟩
    refine HAT0.out.ends HE.out ?_
    refine (Gm.named_rest s HP.out q []).trans ?_
    rw [HO.out, HRT.out]
    rfl
  have hlt : fr < r.b.length := by omega
  cases hi : isIt [35] r.b fr with
  | true =>
    have hx : r.b[fr]? = some 35 := by
      unfold isIt at hi
      split at hi
      · rename_i x hx; rw [hx]; simpa using hi
      · cases hi
    have hak : AtK r.b (fr + 1) { s with st := .hash q } := HAT0.out.step hx (by rw [Gm.named_st s HP.out q []]; simp)
    have HI := Lib.hid hi
    have HE := Lib.hid hend
    have HAK := Lib.hid hak
    have HL := Lib.hid hlt
    clear hi hend hak hx hlt
    go_wp2_with fail
    refine (ended_no HR1.out HE.out).mono ?_
    rintro e w2 ⟨rfl, q', rfl⟩
    go_wp2_with fail
    refine (is_any (HR1.out.fr0 (Fr.drewN _ _ _)) [35]).mono ?_
    simp only [HI.out]
    rintro e w3 ⟨rfl, q2, rfl⟩
    have c1 := HR1.out.c1
    have f1 := HR1.out.fz 1
    go_wp2_with fail
    refine calls_gen (fun W => Rd B W p { r with at_ := fr + 1 } ∧ Fr (only p) w W) ⟨(HR1.out.fr0 (Fr.drewN _ _ _)).moved (fr + 1) (by simp) HL.out, HF1.out.trans ((Fr.drewN _ _ _).trans (Fr.setCell _ _ _ (.inl rfl)))⟩ ?_
    clear c1 f1
    rintro w4 ⟨hr4, hf4⟩
    refine (numbered_any hr4 q HP.out HAK.out HO.out HRT.out).mono ?_
    rintro e w5 hg
    have hf4 := Lib.hid hf4
    rcases hg with ⟨rfl, n, h1, h2, h3, h4⟩ | ⟨h1, h2⟩
    · go_wp2
      go_end0
      exact .inl ⟨rfl, n, by have := HLE1.out; have : fr + 1 < n := h1; omega, h2, h3, hf4.out.trans h4⟩
    · obtain ⟨a1, a2, rfl⟩ := h1.form
      unfold stopE
      exact ⟨rfl, .inr ⟨h1, hf4.out.trans h2⟩⟩
  | false =>
    have HI := Lib.hid hi
    have HE := Lib.hid hend
    clear hi hend
    go_wp2_with fail
    refine (ended_no HR1.out HE.out).mono ?_
    rintro e w2 ⟨rfl, q', rfl⟩
    go_wp2_with fail
    refine (is_any (HR1.out.fr0 (Fr.drewN _ _ _)) [35]).mono ?_
    simp only [HI.out]
    rintro e w3 ⟨rfl, q2, rfl⟩
    have c1 := HR1.out.c1
    simp only at c1
    go_wp2_with fail
    clear c1
    go_loopg [] (r.b.length - fr) (fun k wr => ∃ t : Gm.Bs, k = r.b.length - (fr + t.length) ∧ fr + t.length ≤ r.b.length ∧ (r.b.drop fr).take t.length = t ∧ (∃ m ∈ Gm.names, t <+: m) ∧ AtK r.b (fr + t.length) { s with st := .named q t } ∧
      Rd B wr p { r with at_ := fr + t.length } ∧ Fr (only p) w wr)
    case atStart => exact ⟨[], rfl, hfr, rfl, ⟨_, .head _, List.nil_prefix⟩, HAT0.out, HR1.out.fr0 (Fr.drewN _ _ _), HF1.out.trans (Fr.drewN _ _ _)⟩
    case round =>
      obtain ⟨t, hk, htl, htt, htm, hat, hr, hf⟩ := hrel
      rename World => wo
      generalize hT : t.length = T at hk htl htt hat hr
      have HT := Lib.hid hT
      have HK := Lib.hid hk
      have HTT := Lib.hid htt
      have HTM := Lib.hid htm
      have HA := Lib.hid hat
      have HR := Lib.hid hr
      have HF := Lib.hid hf
      clear hk hT htt htm hat hr hf
      obtain ⟨bk, off, hao, hby⟩ : ∃ bk off, r.ao = some ⟨bk, off, none⟩ ∧ ∀ j, j < r.b.length → wo.cell? ⟨bk, off + j, none⟩ = some (.int .u8 (r.b.getD j 0).toNat) := by
        rcases HR.out.bytes with e | h
        · exact absurd hlt (by rw [show r.b = [] from e]; simp)
        · exact h
      have HAO := Lib.hid hao
      have HBY := Lib.hid hby
      clear hao hby
      have hBA : ∀ W, Fr S0 wo W → BAt W (some ⟨bk, off + fr, none⟩) t := by
        intro W hW
        refine .inr ⟨bk, off + fr, rfl, fun j hj => ?_⟩
        rw [hW.cell (p := ⟨bk, off + fr + j, none⟩) (by have := lt_of_cell (HBY.out fr hlt); simpa using this) (fun h => h)]
        have hT := HT.out
        have := HBY.out (fr + j) (by omega)
        rw [← Nat.add_assoc] at this
        rw [this]
        have hh : t[j]? = r.b[fr + j]? := by
          rw [← HTT.out, List.getElem?_take_of_lt (by omega), List.getElem?_drop]
        simp [List.getD, hh]
      have hcs : ∀ W, Fr S0 wo W → ∀ cap, (convert 22 9 (.slice (some ⟨bk, off + fr, none⟩) T cap)).run Tryd.prog W = .ok (.string ⟨t.toArray⟩) W := by
        intro W hW cap
        have := conv_str (hBA W hW) cap
        rw [HT.out] at this
        exact this
      have HCS := Lib.hid hcs
      clear hBA hcs
      cases hi : isIt [59] r.b (fr + T) with
      | true =>
        have HI59 := Lib.hid hi
        clear hi
        go_wp2_with fail
        refine (is_any HR.out [59]).mono ?_
        simp only [HI59.out]
        rintro e w3 ⟨rfl, q2, rfl⟩
        go_wp2_with fail
        have hx59 : r.b[fr + T]? = some 59 := by
          have := HI59.out
          unfold isIt at this
          split at this
          · rename_i x hx; rw [show r.b[fr + T]? = some x from hx]; simpa using this
          · cases this
        have hlt2 : fr + T < r.b.length := (List.getElem?_eq_some_iff.1 hx59).1
        have HX59 := Lib.hid hx59
        clear hx59
        refine wp_gen (fun W => Fr S0 wo W ∧ ∀ i, i < 5 → W.cell? ⟨wo.heap.size, i, none⟩ = some (.string ⟨(Gm.names.getD i []).toArray⟩)) ⟨(Fr.drewN _ _ _).trans (Fr.alloc _ _ _), ?_⟩ ?_
        · intro i hi
          refine (at_alloc (wo.drewN q2) _ _ i).trans ?_
          match i, hi with
          | 0, _ | 1, _ | 2, _ | 3, _ | 4, _ => rfl
        rintro W1 ⟨hW1, hc⟩
        have HW1 := Lib.hid hW1
        have HC := Lib.hid hc
        clear hW1 hc
        go_loopg [135] 5 (fun k iv W => ∃ i : Nat, i ≤ 5 ∧ k = 5 - i ∧ iv = .int .i64 i ∧ ¬ t ∈ Gm.names.take i ∧ Fr S0 W1 W)
        case atStart => exact ⟨0, by omega, rfl, rfl, by simp, Fr.refl _ _⟩
        case round =>
          obtain ⟨i, hi5, hk, rfl, hnot, hfw⟩ := hrel
          have HKi := Lib.hid hk
          have HN := Lib.hid hnot
          have HFW := Lib.hid hfw
          clear hk hnot hfw
          have hrw := HR.out.fr0 (HW1.out.trans HFW.out)
          have c0 := hrw.c0
          have c1 := hrw.c1
          have f1 := hrw.fz 1
          simp only at c0 c1
          rw [HAO.out] at c0
          have HRW := Lib.hid hrw
          clear hrw
          by_cases hi : i < 5
          · have hcell := HC.out i hi
            rw [← HFW.out.cell (lt_of_cell hcell) (fun h => h)] at hcell
            have hml := names_len i
            have htk : Gm.names.take (i + 1) = Gm.names.take i ++ [Gm.names.getD i []] := by
              match i, hi with
              | 0, _ | 1, _ | 2, _ | 3, _ | 4, _ => rfl
            have hmem : Gm.names.getD i [] ∈ Gm.names := by
              match i, hi with
              | 0, _ | 1, _ | 2, _ | 3, _ | 4, _ => simp [Gm.names]
            have HTK := Lib.hid htk
            have HMEM := Lib.hid hmem
            clear htk hmem
            generalize Gm.names.getD i [] = m at hcell hml HTK HMEM
            have hcs : ∀ j, (convert 22 9 (.slice (some ⟨bk, off + fr, none⟩) T (r.cap - fr))).run Tryd.prog (wr.drewN j) = .ok (.string ⟨t.toArray⟩) (wr.drewN j) := fun j => HCS.out _ (HW1.out.trans (HFW.out.trans (Fr.drewN _ _ _))) _
            by_cases hmt : m = t
            · have ge1 : (m == t) = true := by rw [hmt]; simp
              have hak : AtK r.b (fr + T + 1) (s.back q) := HA.out.step HX59.out (by
                rw [Gm.named_st s HP.out q t, if_neg (fun h => absurd h.2 (by decide)), if_pos rfl, if_pos (hmt ▸ HMEM.out)])
              have HAK := Lib.hid hak
              have HMT := Lib.hid hmt
              clear hak hmt
              go_wp2_with fail
              go_quiet (fail)
              go_wp2
              go_end0
              exact .inl ⟨rfl, fr + T + 1, by have := HLE1.out; omega, HAK.out, (HRW.out.fr0 (Fr.drewN _ _ _)).moved (fr + T + 1) (by simp) hlt2, (HF.out.trans (HW1.out.trans (HFW.out.trans (Fr.drewN _ _ _))).of0).trans (Fr.setCell _ _ _ (.inl rfl))⟩
            · have ge1 : (m == t) = false := by simpa using hmt
              have HMT := Lib.hid hmt
              clear hmt
              go_wp2_with fail
              go_quiet (fail)
              go_wp2
              go_roundg (5 - (i + 1))
              case measure => rw [HKi.out]; omega
              case rel => exact ⟨i + 1, hi, rfl, by go_num, by rw [HTK.out, List.mem_append]; exact fun h => h.elim HN.out (fun h => HMT.out (List.mem_singleton.1 h).symm), HFW.out.trans (Fr.drewN _ _ _)⟩
          · obtain rfl : i = 5 := by omega
            have hn : ¬ t ∈ Gm.names := HN.out
            have hw := HA.out.wrong HX59.out (by rw [Gm.named_st s HP.out q t, if_neg (fun h => absurd h.2 (by decide)), if_pos rfl, if_neg hn])
            have HW := Lib.hid hw
            clear hn hw
            go_wp2_with fail
            refine (wrong_any _ _).mono ?_
            rintro e w2 ⟨rfl, hf2⟩
            exact ⟨rfl, .inr ⟨HW.out, HF.out.trans (HW1.out.trans (HFW.out.trans hf2)).of0⟩⟩
      | false =>
        have HI59 := Lib.hid hi
        clear hi
        go_wp2_with fail
        refine (is_any HR.out [59]).mono ?_
        simp only [HI59.out]
        rintro e w3 ⟨rfl, q2, rfl⟩
        go_wp2_with fail
        refine wp_gen (fun W => Fr S0 wo W ∧ ∀ i, i < 5 → W.cell? ⟨wo.heap.size, i, none⟩ = some (.string ⟨(Gm.namesS.getD i []).toArray⟩)) ⟨(Fr.drewN _ _ _).trans (Fr.alloc _ _ _), ?_⟩ ?_
        · intro i hi
          refine (at_alloc (wo.drewN q2) _ _ i).trans ?_
          match i, hi with
          | 0, _ | 1, _ | 2, _ | 3, _ | 4, _ => rfl
        rintro W1 ⟨hW1, hc⟩
        have HW1 := Lib.hid hW1
        have HC := Lib.hid hc
        clear hW1 hc
        go_loopg [48, 5] 5 (fun k iv lv W => ∃ (i : Nat) (lf : Gm.Bs), i ≤ 5 ∧ k = 5 - i ∧ iv = .int .i64 i ∧ lv = .string ⟨lf.toArray⟩ ∧ lf.length ≤ 5 ∧ Gm.leastLeft t (Gm.namesS.drop i) lf = Gm.leastLeft t Gm.namesS [] ∧ Fr S0 W1 W)
        case atStart => exact ⟨0, [], by omega, rfl, rfl, rfl, by simp, rfl, Fr.refl _ _⟩
        case round =>
          obtain ⟨i, lf, hi5, hk, rfl, rfl, hlf, hleast, hfw⟩ := hrel
          have HKi := Lib.hid hk
          have HLS := Lib.hid hleast
          have HFW := Lib.hid hfw
          clear hk hleast hfw
          have hrw := HR.out.fr0 (HW1.out.trans HFW.out)
          have c0 := hrw.c0
          have c1 := hrw.c1
          simp only at c0 c1
          rw [HAO.out] at c0
          clear hrw
          by_cases hi : i < 5
          · have hcell := HC.out i hi
            rw [← HFW.out.cell (lt_of_cell hcell) (fun h => h)] at hcell
            have hst := leastLeft_drop t lf i hi
            rw [HLS.out] at hst
            have hml := namesS_len i
            generalize Gm.namesS.getD i [] = m at hcell hst hml
            have HST := Lib.hid hst
            clear hst
            have u0 : ∀ j : Ext wr, (up j).cell? ⟨p, 0, none⟩ = some (.slice (some ⟨bk, off, none⟩) r.b.length r.cap) := fun j => ((up_fr j).cell (lt_of_cell c0) (fun h => h)).trans c0
            have hcs : ∀ j : Ext wr, (convert 22 9 (.slice (some ⟨bk, off + fr, none⟩) T (r.cap - fr))).run Tryd.prog (up j) = .ok (.string ⟨t.toArray⟩) (up j) := fun j => HCS.out _ (HW1.out.trans (HFW.out.trans (up_fr j))) _
            have u1 : ∀ j : Ext wr, (up j).cell? ⟨p, 1, none⟩ = some (.int .i64 ((fr + T : Nat) : Int)) := fun j => ((up_fr j).cell (lt_of_cell c1) (fun h => h)).trans c1
            have hpx : ∀ j : Ext wr, Calls Tryd.prog 37 #[.string ⟨m.toArray⟩, .string ⟨t.toArray⟩] (up j) fun e w' => e = .returned (.bool (t.isPrefixOf m)) ∧ w' = up j := fun j => Tryd.strings_HasPrefix _ _ _
            cases hpre : t.isPrefixOf m with
            | false =>
              rw [hpre] at hpx
              have hst := HST.out
              rw [if_neg (fun h => by rw [hpre] at h; cases h.1)] at hst
              have HS := Lib.hid hst
              have HPX := Lib.hid hpx
              clear hst hpx hpre
              go_wp2_with fail
              refine wp_region_up (by kernel_rfl) (by kernel_rfl) ?_
              repeat (first | go_big_quiet_step (first | (go_at_call 37; exact calls_up_same (HPX.out _))) | quiet_step (first | (go_at_call 37; exact calls_up_same (HPX.out _))))
              refine wpQuiet_nil ?_
              rintro _ ⟨⟨w5, HF5⟩, rfl⟩
              try dsimp only [up]
              go_wp2
              go_roundg (5 - (i + 1))
              case measure => rw [HKi.out]; omega
              case rel => exact ⟨i + 1, lf, hi, rfl, by go_num, rfl, hlf, HS.out.symm, HFW.out.trans HF5⟩
            | true =>
              have hTm : T ≤ m.length := by
                have := (List.isPrefixOf_iff_prefix.1 hpre).length_le
                have := HT.out
                omega
              rw [hpre] at hpx
              have HPX := Lib.hid hpx
              have HPRE := Lib.hid hpre
              clear hpx hpre
              have hzm := size_list m
              have hzl := size_list lf
              by_cases hl0 : lf = []
              · subst hl0
                have hst := HST.out
                rw [if_pos ⟨HPRE.out, .inl rfl⟩, HT.out] at hst
                have HS := Lib.hid hst
                clear hst hzl
                go_wp2_with fail
                refine wp_region_up (by kernel_rfl) (by kernel_rfl) ?_
                repeat (first | go_big_quiet_step (first | (go_at_call 37; exact calls_up_same (HPX.out _))) | quiet_step (first | (go_at_call 37; exact calls_up_same (HPX.out _))))
                refine wpQuiet_nil ?_
                rintro _ ⟨⟨w5, HF5⟩, rfl⟩
                try dsimp only [up]
                go_wp2
                go_roundg (5 - (i + 1))
                case measure => rw [HKi.out]; omega
                case rel => exact ⟨i + 1, m.drop T, hi, rfl, by go_num, congrArg Value.string (ext_drop m fr T), by simp; omega, HS.out.symm, HFW.out.trans HF5⟩
              · have gl1 : (⟨lf.toArray⟩ : ByteArray).toList.isEmpty = false := by rw [toList_list]; simpa using hl0
                have gl2 : lf.isEmpty = false := by simpa using hl0
                by_cases hlt2 : m.length - T < lf.length
                · have gn : decide ((m.length : Int) - ((fr : Int) + T - fr) < lf.length) = true := by rw [decide_eq_true_iff]; omega
                  have hst := HST.out
                  rw [HT.out, if_pos ⟨HPRE.out, .inr hlt2⟩] at hst
                  have HS := Lib.hid hst
                  clear hst hl0
                  go_wp2_with fail
                  refine wp_region_up (by kernel_rfl) (by kernel_rfl) ?_
                  repeat (first | go_big_quiet_step (first | (go_at_call 37; exact calls_up_same (HPX.out _))) | quiet_step (first | (go_at_call 37; exact calls_up_same (HPX.out _))))
                  refine wpQuiet_nil ?_
                  rintro _ ⟨⟨w5, HF5⟩, rfl⟩
                  try dsimp only [up]
                  go_wp2
                  go_roundg (5 - (i + 1))
                  case measure => rw [HKi.out]; omega
                  case rel => exact ⟨i + 1, m.drop T, hi, rfl, by go_num, congrArg Value.string (ext_drop m fr T), by simp; omega, HS.out.symm, HFW.out.trans HF5⟩
                · have gn : decide ((m.length : Int) - ((fr : Int) + T - fr) < lf.length) = false := by rw [decide_eq_false_iff_not]; omega
                  have hst := HST.out
                  rw [HT.out, if_neg (fun h => h.2.elim hl0 hlt2)] at hst
                  have HS := Lib.hid hst
                  clear hst hl0
                  go_wp2_with fail
                  refine wp_region_up (by kernel_rfl) (by kernel_rfl) ?_
                  repeat (first | go_big_quiet_step (first | (go_at_call 37; exact calls_up_same (HPX.out _))) | quiet_step (first | (go_at_call 37; exact calls_up_same (HPX.out _))))
                  refine wpQuiet_nil ?_
                  rintro _ ⟨⟨w5, HF5⟩, rfl⟩
                  try dsimp only [up]
                  go_wp2
                  go_roundg (5 - (i + 1))
                  case measure => rw [HKi.out]; omega
                  case rel => exact ⟨i + 1, lf, hi, rfl, by go_num, rfl, hlf, HS.out.symm, HFW.out.trans HF5⟩
          · obtain rfl : i = 5 := by omega
            have hleft := HLS.out
            have hd5 : Gm.namesS.drop 5 = [] := rfl
            rw [hd5] at hleft
            have HLF : RowKit.Hid (lf = Gm.leastLeft t Gm.namesS []) := hleft
            clear hleft hd5
            have hrw := HR.out.fr0 (HW1.out.trans HFW.out)
            have HRW := Lib.hid hrw
            have hzl := size_list lf
            clear hrw c0 c1
            by_cases hend2 : fr + T = r.b.length
            · have HE2 := Lib.hid hend2
              have htn : t ≠ [] := by
                rintro rfl
                have := HT.out
                simp at this
                omega
              have hfin : Halts r.b (stopE (-1) (lf ++ Gm.tagRest q ++ Gm.closing r.o ++ Gm.rl r.root)) := by
                refine HA.out.ends HE2.out ?_
                refine (Gm.named_rest s HP.out q t).trans ?_
                unfold Gm.namedRest
                rw [if_neg htn, HO.out, HRT.out, HLF.out]
              have HFIN := Lib.hid hfin
              clear hend2 htn hfin
              go_wp2_with fail
              refine (ended_yes HRW.out HE2.out).mono ?_
              rintro e w6 ⟨rfl, q6, rfl⟩
              go_wp2_with fail
              refine (end_any (HRW.out.fr0 (Fr.drewN _ _ _)) (lf ++ Gm.tagRest q) (by simp; omega)).mono ?_
              rintro e w7 ⟨rfl, hf7⟩
              exact ⟨rfl, .inr ⟨HFIN.out, HF.out.trans (HW1.out.trans (HFW.out.trans ((Fr.drewN _ _ _).trans hf7))).of0⟩⟩
            · have hlt2 : fr + T < r.b.length := by omega
              have HE2 := Lib.hid hend2
              clear hend2
              rename World => wi
              go_wp2_with fail
              refine (ended_no HRW.out HE2.out).mono ?_
              rintro e w6 ⟨rfl, q6, rfl⟩
              go_wp2_with fail
              obtain ⟨x, hx⟩ : ∃ x, r.b[fr + T]? = some x := ⟨_, getD_some hlt2⟩
              have hx59 : x ≠ 59 := by
                rintro rfl
                have := HI59.out
                simp only [isIt] at this
                rw [show r.b[fr + T]? = some 59 from hx] at this
                simp at this
              have hx35 : ¬ (t = [] ∧ x = 35) := by
                rintro ⟨rfl, rfl⟩
                have hT := HT.out
                have hT : 0 = T := hT
                subst hT
                have := HI.out
                simp only [isIt] at this
                rw [show r.b[fr]? = some 35 from hx] at this
                simp at this
              have hst := Gm.named_st s HP.out q t x
              have hns : ¬ (59 : UInt8) ∈ t ++ [x] := by
                rw [List.mem_append]
                exact fun h => h.elim (no_semi HTM.out) (fun h => hx59 (List.mem_singleton.1 h).symm)
              rw [if_neg hx35, if_neg hx59, ← any_semi (t ++ [x]) hns] at hst
              have HNS := Lib.hid hns
              have htx : (t ++ [x]).length = T + 1 := by rw [List.length_append, HT.out]; rfl
              have httx : (r.b.drop fr).take (T + 1) = t ++ [x] := by
                have e : fr + T < r.b.length := hlt2
                rw [List.take_succ_eq_append_getElem (by simp; omega), HTT.out]
                congr 2
                rw [List.getElem_drop]
                exact (List.getElem?_eq_some_iff.1 hx).2
              have hcsx : ∀ W, Fr S0 wi W → (convert 22 9 (.slice (some ⟨bk, off + fr, none⟩) (T + 1) (r.cap - fr))).run Tryd.prog W = .ok (.string ⟨(t ++ [x]).toArray⟩) W := by
                intro W hW
                have hB : BAt W (some ⟨bk, off + fr, none⟩) (t ++ [x]) := by
                  refine .inr ⟨bk, off + fr, rfl, fun j hj => ?_⟩
                  have hWW := HW1.out.trans (HFW.out.trans hW)
                  rw [hWW.cell (p := ⟨bk, off + fr + j, none⟩) (by have := lt_of_cell (HBY.out fr hlt); simpa using this) (fun h => h)]
                  have := HBY.out (fr + j) (by omega)
                  rw [← Nat.add_assoc] at this
                  rw [this]
                  have hh : (t ++ [x])[j]? = r.b[fr + j]? := by
                    rw [← httx, List.getElem?_take_of_lt (by omega), List.getElem?_drop]
                  simp [List.getD, hh]
                have := conv_str hB (r.cap - fr)
                rw [htx] at this
                exact this
              have HX := Lib.hid hx
              have HST := Lib.hid hst
              have HTX := Lib.hid htx
              have HTTX := Lib.hid httx
              have HCX := Lib.hid hcsx
              clear hx hx59 hx35 hst htx httx hcsx hns
              generalize htxx : t ++ [x] = tx at HST HTX HTTX HCX HNS
              have HTXX := Lib.hid htxx
              clear htxx
              refine wp_gen (fun W => Fr S0 wi W ∧ ∀ i, i < 5 → W.cell? ⟨wi.heap.size, i, none⟩ = some (.string ⟨(Gm.namesS.getD i []).toArray⟩)) ⟨(Fr.drewN _ _ _).trans (Fr.alloc _ _ _), ?_⟩ ?_
              · intro i hi
                refine (at_alloc (wi.drewN q6) _ _ i).trans ?_
                match i, hi with
                | 0, _ | 1, _ | 2, _ | 3, _ | 4, _ => rfl
              rintro W2 ⟨hW2, hc⟩
              have HW2 := Lib.hid hW2
              have HC2 := Lib.hid hc
              clear hW2 hc
              go_loopg [97, 9] 5 (fun k iv kv W => ∃ i : Nat, i ≤ 5 ∧ k = 5 - i ∧ iv = .int .i64 i ∧ kv = .bool ((Gm.namesS.take i).any fun m => tx.isPrefixOf m) ∧ Fr S0 W2 W)
              case atStart => exact ⟨0, by omega, rfl, rfl, rfl, Fr.refl _ _⟩
              case round =>
                obtain ⟨i, hi5, hk, rfl, rfl, hfw⟩ := hrel
                have HKi := Lib.hid hk
                have HFW2 := Lib.hid hfw
                clear hk hfw
                have hrw := HRW.out.fr0 (HW2.out.trans HFW2.out)
                have c0 := hrw.c0
                have c1 := hrw.c1
                have f1 := hrw.fz 1
                simp only at c0 c1
                rw [HAO.out] at c0
                have HRW2 := Lib.hid hrw
                clear hrw
                by_cases hi : i < 5
                · have hcell := HC2.out i hi
                  rw [← HFW2.out.cell (lt_of_cell hcell) (fun h => h)] at hcell
                  have han := any_drop (fun m => tx.isPrefixOf m) Gm.namesS i hi
                  have hml := namesS_len i
                  generalize Gm.namesS.getD i [] = m at hcell han hml
                  have HAN := Lib.hid han
                  clear han
                  cases hkn : (Gm.namesS.take i).any fun m => tx.isPrefixOf m with
                  | true =>
                    have HKN := Lib.hid hkn
                    clear hkn
                    go_wp2_with fail
                    go_quiet (fail)
                    go_wp2
                    go_roundg (5 - (i + 1))
                    case measure => rw [HKi.out]; omega
                    case rel => exact ⟨i + 1, hi, rfl, by go_num, by rw [HAN.out, HKN.out]; rfl, HFW2.out.trans (Fr.drewN _ _ _)⟩
                  | false =>
                    have hcs : ∀ j, (convert 22 9 (.slice (some ⟨bk, off + fr, none⟩) (T + 1) (r.cap - fr))).run Tryd.prog (wr.drewN j) = .ok (.string ⟨tx.toArray⟩) (wr.drewN j) := fun j => HCX.out _ (HW2.out.trans (HFW2.out.trans (Fr.drewN _ _ _)))
                    obtain ⟨N, hN⟩ : ∃ N, N = fr + T := ⟨_, rfl⟩
                    rw [← hN] at c1
                    have hNfr : fr ≤ N + 1 := by omega
                    have hNc : N + 1 ≤ r.cap := by omega
                    have hNT : T + 1 = N + 1 - fr := by omega
                    rw [hNT] at hcs
                    clear hN hNT
                    have hpx : ∀ W, Calls Tryd.prog 37 #[.string ⟨m.toArray⟩, .string ⟨tx.toArray⟩] W fun e w' => e = .returned (.bool (tx.isPrefixOf m)) ∧ w' = W := fun W => Tryd.strings_HasPrefix _ _ _
                    have HPX := Lib.hid hpx
                    have HKN := Lib.hid hkn
                    clear hkn hpx
                    go_wp2_with fail
                    go_quiet ((go_at_call 37; exact Calls.quiet_of_same (HPX.out _)))
                    go_wp2
                    go_roundg (5 - (i + 1))
                    case measure => rw [HKi.out]; omega
                    case rel => exact ⟨i + 1, hi, rfl, by go_num, by rw [HAN.out, HKN.out]; rfl, HFW2.out.trans (Fr.drewN _ _ _)⟩
                · obtain rfl : i = 5 := by omega
                  have hst := HST.out
                  rw [show Gm.namesS.take 5 = Gm.namesS from rfl]
                  cases hkn : Gm.namesS.any fun m => tx.isPrefixOf m with
                  | true =>
                    rw [hkn, if_pos rfl] at hst
                    have hak := HA.out.step HX.out hst
                    have hpre : ∃ m ∈ Gm.names, tx <+: m := by
                      rw [any_semi tx HNS.out] at hkn
                      exact Gm.any_prefix hkn
                    have HPR := Lib.hid hpre
                    have HAK := Lib.hid hak
                    clear hkn hst hak hpre
                    go_wp2
                    go_roundg (r.b.length - (fr + (T + 1)))
                    case measure => rw [HK.out]; omega
                    case rel => exact ⟨tx, by rw [HTX.out], by rw [HTX.out]; omega, by rw [HTX.out]; exact HTTX.out, HPR.out, by rw [HTX.out]; exact HAK.out, by rw [HTX.out]; exact HRW2.out.moved (fr + T + 1) (by simp) hlt2, (HF.out.trans (HW1.out.trans (HFW.out.trans (HW2.out.trans HFW2.out))).of0).trans (Fr.setCell _ _ _ (.inl rfl))⟩
                  | false =>
                    rw [hkn, if_neg (by simp)] at hst
                    have hw := HA.out.wrong HX.out hst
                    have HW := Lib.hid hw
                    clear hst hw hkn
                    go_wp2_with fail
                    refine (wrong_any _ _).mono ?_
                    rintro e w2 ⟨rfl, hf2⟩
                    exact ⟨rfl, .inr ⟨HW.out, HF.out.trans (HW1.out.trans (HFW.out.trans (HW2.out.trans (HFW2.out.trans hf2)))).of0⟩⟩
end Go.Proofs.YtghhakilkmbpdaaDoor
