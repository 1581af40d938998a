/- Names: what Go's decoder and chars.Name say of them. -/
import Derived.Test.YtghhakilkmbpdaaDoorWRefr
import Derived.Lib.ValidLaws
import Derived.Lib.TrimUEq
import Derived.Lib.OthersKept
namespace Go.Proofs.YtghhakilkmbpdaaDoor
open Go Go.RowKit Gm

theorem decL_eq (b : Bs) : Lib.decodeL b = decL b := Lib.decodeL_N b

set_option maxHeartbeats 1600000 in
/-- a whole character is decoded whatever stands behind it -/
theorem dec_app {c : Nat} (hc : c < 6) {b : Bs} (h : begins c b = true) (hw : whole b = true) (v : Bs) : decL (b ++ v) = decL b := by
  obtain ⟨r, h1, h2, h3, h4, h5⟩ := (dec_begins hc h).1 hw
  have hl : 1 ≤ b.length ∧ b.length ≤ 4 := by
    cases b with
    | nil => exact absurd rfl (begins_ne h)
    | cons x t =>
      obtain ⟨wd, l, least, k, hl, hk, _⟩ := begins_lead h
      have := lead_le hl
      simp; omega
  have hne : ¬ (r = 65533 ∧ b.length = 1) := by
    rintro ⟨rfl, h⟩
    have := h2 h
    omega
  rw [h1]
  unfold decL Lib.decodeN at h1 ⊢
  match b, hl with
  | [x], _ =>
    simp at h1 hne ⊢
    repeat' split at h1
    all_goals simp at h1
    all_goals try (exfalso; omega)
    · rename_i h; simp [h, h1]; intro hx; exfalso; omega
  | [x, y], _ =>
    simp at h1 ⊢
    repeat' split at h1
    all_goals simp at h1
    all_goals try (exfalso; omega)
    · rename_i h6 h7 h8
      rw [if_neg h6, if_pos (by omega), if_pos h8, h1]
  | [x, y, z], _ =>
    simp at h1 ⊢
    repeat' split at h1
    all_goals simp at h1
    all_goals try (exfalso; omega)
    · rename_i h5 h6 h7 h8
      rw [if_neg h5, if_neg h6, if_pos (by omega), if_pos h8, h1]
  | [x, y, z, u], _ =>
    simp at h1 ⊢
    repeat' split at h1
    all_goals simp at h1
    all_goals try (exfalso; omega)
    · rename_i h4' h5 h6 h7 h8
      rw [if_neg h4', if_neg h5, if_neg h6, if_pos (by omega), if_pos h8, h1]
  | _ :: _ :: _ :: _ :: _ :: _, h => simp at h

/-- the first character of bytes that are of a name -/
theorem scan_first (c : Nat) : ∀ (v a : Bs), (a = [] ∨ begins c a = true ∧ whole a = false) → a ++ v ≠ [] → ∀ p c', nscan a c v = some (p, c') →
    (∃ q v', a ++ v = q ++ v' ∧ q ≠ [] ∧ begins c q = true ∧ whole q = true ∧ nscan [] 3 v' = some (p, c')) ∨ (a ++ v = p ∧ c' = c ∧ begins c p = true ∧ whole p = false) := by
  intro v
  induction v with
  | nil =>
    intro a ha hne p c' h
    simp only [nscan, Option.some.injEq, Prod.mk.injEq] at h
    obtain ⟨rfl, rfl⟩ := h
    rcases ha with rfl | ⟨h1, h2⟩
    · exact absurd rfl hne
    · exact .inr ⟨by simp, rfl, h1, h2⟩
  | cons x v ih =>
    intro a ha _ p c' h
    simp only [nscan] at h
    split at h
    · rename_i hb
      split at h
      · rename_i hw
        exact .inl ⟨a ++ [x], v, by simp, by simp, hb, hw, h⟩
      · rename_i hw
        have := ih (a ++ [x]) (.inr ⟨hb, by simpa using hw⟩) (by simp) p c' h
        simpa using this
    · cases h

theorem scan_valid : ∀ (n : Nat) (v : Bs) (c : Nat), v.length ≤ n → c < 6 → ∀ p c', nscan [] c v = some (p, c') → Lib.validD v = decide (p = []) := by
  intro n
  induction n with
  | zero =>
    intro v c hn hc p c' h
    obtain rfl : v = [] := List.length_eq_zero_iff.1 (by omega)
    simp only [nscan, Option.some.injEq, Prod.mk.injEq] at h
    obtain ⟨rfl, rfl⟩ := h
    rfl
  | succ n ih =>
    intro v c hn hc p c' h
    by_cases hv : v = []
    · subst hv
      simp only [nscan, Option.some.injEq, Prod.mk.injEq] at h
      obtain ⟨rfl, rfl⟩ := h
      rfl
    · rw [Lib.validD_step v hv, decL_eq]
      rcases scan_first c v [] (.inl rfl) (by simpa using hv) p c' h with ⟨q, v', h1, h2, h3, h4, h5⟩ | ⟨h1, _, h3, h4⟩
      · simp only [List.nil_append] at h1
        subst h1
        obtain ⟨r, d1, d2, d3, d4, d5⟩ := (dec_begins hc h3).1 h4
        rw [dec_app hc h3 h4, d1]
        have hq : 0 < q.length := List.length_pos_iff.2 h2
        rw [if_neg (by rintro ⟨rfl, e⟩; have := d2 e; omega)]
        simp only [List.drop_left]
        exact ih v' 3 (by simp at hn; omega) (by omega) p c' h5
      · simp only [List.nil_append] at h1
        subst h1
        rw [(dec_begins hc h3).2 h4]
        have : v ≠ [] := hv
        simp [this]

theorem scan3 : ∀ (v a : Bs) p c', nscan a 3 v = some (p, c') → c' = 3 := by
  intro v
  induction v with
  | nil => intro a p c' h; simp only [nscan, Option.some.injEq, Prod.mk.injEq] at h; exact h.2.symm
  | cons x v ih =>
    intro a p c' h
    simp only [nscan] at h
    split at h
    · split at h
      · exact ih _ _ _ h
      · exact ih _ _ _ h
    · cases h
theorem scan_nil {c : Nat} {v : Bs} (hv : v ≠ []) {c' : Nat} (h : nscan [] c v = some ([], c')) : c' = 3 := by
  rcases scan_first c v [] (.inl rfl) (by simpa using hv) [] c' h with ⟨q, v', _, _, _, _, h5⟩ | ⟨_, _, h3, _⟩
  · exact scan3 _ _ _ _ h5
  · exact absurd rfl (begins_ne h3)
theorem decode_drop (nm : Bs) (pos : Nat) : Utf8.decode ⟨nm.toArray⟩ pos = decL (nm.drop pos) := by
  rw [← Lib.decodeL_drop, decL_eq]
theorem Fr.iterAt {w wr : World} (h : Fr S0 w wr) {k : Nat} (hk : w.heap.size ≤ k) (s : ByteArray) (pos : Nat) : Fr S0 w (wr.iterAt k s pos) :=
  Fr.of_below (Lib.below_iterAt h.below hk s pos)

set_option maxHeartbeats 1600000 in
/-- chars.Name of bytes that are of a name -/
theorem Name_any {B : Nat} (nm : Bs) (hl : nameLike [] 2 nm = true) (hsm : nm.length ≤ 1099511627776) (w : World) (h : Env B w) :
    Calls Tryd.prog 55 #[.string ⟨nm.toArray⟩] w fun e w' => e = .returned (.bool (isName [] 2 nm)) ∧ Fr S0 w w' := by
  rw [nameLike_iff _ _ _ (.inl rfl)] at hl
  obtain ⟨⟨p, c'⟩, hs⟩ := Option.isSome_iff_exists.1 hl
  have HEnv := Lib.hid h
  have hv := scan_valid nm.length nm 2 (Nat.le_refl _) (by omega) p c' hs
  have hsz := size_list nm
  clear hl h
  cases hin : isName [] 2 nm with
  | true =>
    rw [isName_iff] at hin
    rw [hs] at hin
    simp only [Option.some.injEq, Prod.mk.injEq] at hin
    obtain ⟨rfl, rfl⟩ := hin
    have hne : nm ≠ [] := by rintro rfl; simp [nscan] at hs
    have hval : ∀ W, Fr S0 w W → Calls Tryd.prog 57 #[.string ⟨nm.toArray⟩] W fun e w' => e = .returned (.bool true) ∧ Fr S0 W w' := by
      intro W hW
      refine (Any.utf8_ValidString Tryd.laysValid ⟨nm.toArray⟩ W (by rw [hsz]; omega) (HEnv.out.fr0 hW).u8).mono ?_
      rintro e w' ⟨he, hb⟩
      exact ⟨by rw [he]; exact congrArg (fun b => Ending.returned (.bool b)) (by simpa using hv), Fr.of_below hb⟩
    have HV := Lib.hid hval
    have HS := Lib.hid hs
    have HNE := Lib.hid hne
    have gne : (!nm.isEmpty) = true := by simpa using hne
    have gne2 : nm.isEmpty = false := by simpa using hne
    clear hv hval hs hne
    go_enter Tryd.func55, Tryd.ntmps55
    go_wp2
    go_loopw [3] (fun cv wr => ∃ (u v : Bs) (c : Nat), nm = u ++ v ∧ (c = 2 ∨ c = 3) ∧ nscan [] c v = some ([], 3) ∧ cv = .int .i64 c ∧ wr.heap[w.heap.size]? = some (.stringIter ⟨nm.toArray⟩ u.length) ∧ Fr S0 w wr) (fun _ wr => nm.length - wr.iterPos (w.heap.size))
    case atStart => exact ⟨[], nm, 2, rfl, .inl rfl, HS.out, rfl, World.iter_heap w ⟨nm.toArray⟩ 0, Fr.alloc _ _ _⟩
    case round =>
      obtain ⟨u, v, c, huv, hc, hsc, rfl, hit, hf⟩ := hrel
      have hsize : w.heap.size < wr.heap.size := (Array.getElem?_eq_some_iff.1 hit).1
      have HF := Lib.hid hf
      have HSC := Lib.hid hsc
      have HUV := Lib.hid huv
      clear hf hsc huv
      by_cases hv : v = []
      · have hp : ¬ u.length < (⟨nm.toArray⟩ : ByteArray).size := by rw [hsz, HUV.out, hv]; simp
        have hnx : ∀ ty, (Instr.next (.pointer (some ⟨w.heap.size, 0, none⟩)) true ty).run Tryd.prog wr = _ := fun ty => Lib.run_next_end_at wr w.heap.size ⟨nm.toArray⟩ u.length ty hit hp
        have HVN := Lib.hid hv
        clear hv hp
        go_wp2_with fail
        refine (HV.out _ HF.out).mono ?_
        rintro e w1 ⟨rfl, hf1⟩
        go_wp2
        go_ret
        exact ⟨rfl, HF.out.trans hf1⟩
      · rcases scan_first c v [] (.inl rfl) (by simpa using hv) [] 3 HSC.out with ⟨q, v', h1, h2, h3, h4, h5⟩ | ⟨_, _, h3, _⟩
        · simp only [List.nil_append] at h1
          have hc6 : c < 6 := by omega
          obtain ⟨rr, d1, d2, d3, d4, d5⟩ := (dec_begins hc6 h3).1 h4
          have hq : 0 < q.length := List.length_pos_iff.2 h2
          have hlen : nm.length = u.length + (q.length + v'.length) := by rw [HUV.out, h1]; simp
          have hp : u.length < (⟨nm.toArray⟩ : ByteArray).size := by rw [hsz, hlen]; omega
          have hdec : Utf8.decode ⟨nm.toArray⟩ u.length = (rr, q.length) := by
            rw [decode_drop, HUV.out, List.drop_left, h1, dec_app hc6 h3 h4, d1]
          have hnx0 := fun ty => Lib.run_next_any_at (P := Tryd.prog) wr w.heap.size ⟨nm.toArray⟩ u.length ty hit hp
          rw [hdec] at hnx0
          have hnx : ∀ ty, (Instr.next (.pointer (some ⟨w.heap.size, 0, none⟩)) true ty).run Tryd.prog wr = .ok (.tuple #[.bool true, .int .i64 u.length, .int .i32 rr]) (wr.iterAt w.heap.size ⟨nm.toArray⟩ (u.length + q.length)) := hnx0
          have hf2 := HF.out.iterAt (Nat.le_refl _) ⟨nm.toArray⟩ (u.length + q.length)
          have hit2 := Lib.iterAt_heap wr w.heap.size ⟨nm.toArray⟩ u.length (u.length + q.length) hit
          have his := Is_any c hc6 rr _ (HEnv.out.fr0 hf2)
          rw [d4] at his
          have hs2 := Lib.iterAt_size wr w.heap.size ⟨nm.toArray⟩ (u.length + q.length)
          have HIS := Lib.hid his
          have HF2 := Lib.hid hf2
          have HIT2 := Lib.hid hit2
          have HIT := Lib.hid hit
          have H1 := Lib.hid h1
          have H5 := Lib.hid h5
          have HS2 := Lib.hid hs2
          clear hnx0 hdec his hf2 hit2 h1 h5 hv d1 d2 d4 d5 h3 h4 h2 hit hs2 hc
          go_wp2_with fail
          refine HIS.out.mono ?_
          rintro e w1 ⟨rfl, hf1⟩
          have hit3 : w1.heap[w.heap.size]? = some (.stringIter ⟨nm.toArray⟩ (u.length + q.length)) := by
            rw [hf1.block _ (by rw [HS2.out]; exact hsize) (fun h => h)]
            exact HIT2.out
          have HIT3 := Lib.hid hit3
          have HF1 := Lib.hid hf1
          clear hit3 hf1
          go_wp2
          go_roundw
          case rel => exact ⟨u ++ q, v', 3, by rw [HUV.out, H1.out, List.append_assoc], .inr rfl, H5.out, rfl, by rw [List.length_append]; exact HIT3.out, HF2.out.trans HF1.out⟩
          case measure =>
            simp only [World.iterPos, HIT3.out, HIT.out]
            omega
        · exact absurd rfl (begins_ne h3)
  | false =>
    have hnot : ¬ nscan [] 2 nm = some ([], 3) := by rw [← isName_iff, hin]; simp
    by_cases hne : nm = []
    · subst hne
      clear hs hv hnot hsz hin
      go_enter Tryd.func55, Tryd.ntmps55
      go_wp2
      go_loopw [3] (fun cv wr => wr.heap[w.heap.size]? = some (.stringIter ⟨#[]⟩ 0) ∧ Fr S0 w wr) (fun _ wr => 0)
      case atStart => exact ⟨World.iter_heap w ⟨#[]⟩ 0, Fr.alloc _ _ _⟩
      case round =>
        obtain ⟨hit, hf⟩ := hrel
        have HF := Lib.hid hf
        have hnx : ∀ ty, (Instr.next (.pointer (some ⟨w.heap.size, 0, none⟩)) true ty).run Tryd.prog wr = _ := fun ty => Lib.run_next_end_at wr w.heap.size ⟨#[]⟩ 0 ty hit (by simp [ByteArray.size])
        clear hf
        go_wp2
        go_ret
        exact ⟨rfl, HF.out⟩
    · have hpn : p ≠ [] := by
        rintro rfl
        rw [hs, scan_nil hne hs] at hnot
        exact hnot rfl
      have hval : ∀ W, Fr S0 w W → Calls Tryd.prog 57 #[.string ⟨nm.toArray⟩] W fun e w' => e = .returned (.bool false) ∧ Fr S0 W w' := by
        intro W hW
        refine (Any.utf8_ValidString Tryd.laysValid ⟨nm.toArray⟩ W (by rw [hsz]; omega) (HEnv.out.fr0 hW).u8).mono ?_
        rintro e w' ⟨he, hb⟩
        refine ⟨?_, Fr.of_below hb⟩
        rw [he]
        refine congrArg (fun b => Ending.returned (.bool b)) (hv.trans ?_)
        simpa using hpn
      have HV := Lib.hid hval
      have gne : (!nm.isEmpty) = true := by simpa using hne
      have gne2 : nm.isEmpty = false := by simpa using hne
      clear hs hv hnot hin hne hpn hval
      go_enter Tryd.func55, Tryd.ntmps55
      go_wp2
      go_loopw [3] (fun cv wr => ∃ (pos c : Nat), (c = 2 ∨ c = 3) ∧ cv = .int .i64 c ∧ wr.heap[w.heap.size]? = some (.stringIter ⟨nm.toArray⟩ pos) ∧ Fr S0 w wr) (fun _ wr => nm.length - wr.iterPos (w.heap.size))
      case atStart => exact ⟨0, 2, .inl rfl, rfl, World.iter_heap w ⟨nm.toArray⟩ 0, Fr.alloc _ _ _⟩
      case round =>
        obtain ⟨pos, c, hc, rfl, hit, hf⟩ := hrel
        have hsize : w.heap.size < wr.heap.size := (Array.getElem?_eq_some_iff.1 hit).1
        have HF := Lib.hid hf
        clear hf
        by_cases hp : pos < (⟨nm.toArray⟩ : ByteArray).size
        · have hc6 : c < 6 := by omega
          have hwd : 1 ≤ (Utf8.decode ⟨nm.toArray⟩ pos).2 := Lib.width_pos _ _
          have hp2 : pos < nm.length := by rw [hsz] at hp; exact hp
          have hnx0 := fun ty => Lib.run_next_any_at (P := Tryd.prog) wr w.heap.size ⟨nm.toArray⟩ pos ty hit hp
          have hf2 := HF.out.iterAt (Nat.le_refl _) ⟨nm.toArray⟩ (pos + (Utf8.decode ⟨nm.toArray⟩ pos).2)
          have hit2 := Lib.iterAt_heap wr w.heap.size ⟨nm.toArray⟩ pos (pos + (Utf8.decode ⟨nm.toArray⟩ pos).2) hit
          have hs2 := Lib.iterAt_size wr w.heap.size ⟨nm.toArray⟩ (pos + (Utf8.decode ⟨nm.toArray⟩ pos).2)
          generalize Utf8.decode ⟨nm.toArray⟩ pos = dd at *
          obtain ⟨rr, wd⟩ := dd
          have hnx : ∀ ty, (Instr.next (.pointer (some ⟨w.heap.size, 0, none⟩)) true ty).run Tryd.prog wr = .ok (.tuple #[.bool true, .int .i64 pos, .int .i32 rr]) (wr.iterAt w.heap.size ⟨nm.toArray⟩ (pos + wd)) := hnx0
          simp only at hwd
          have his := Is_any c hc6 rr _ (HEnv.out.fr0 hf2)
          have HIS := Lib.hid his
          have HF2 := Lib.hid hf2
          have HIT2 := Lib.hid hit2
          have HIT := Lib.hid hit
          have HS2 := Lib.hid hs2
          clear hnx0 his hf2 hit2 hit hs2 hc hp
          go_wp2_with fail
          refine HIS.out.mono ?_
          rintro e w1 ⟨rfl, hf1⟩
          have hit3 : w1.heap[w.heap.size]? = some (.stringIter ⟨nm.toArray⟩ (pos + wd)) := by
            rw [hf1.block _ (by rw [HS2.out]; exact hsize) (fun h => h)]
            exact HIT2.out
          have HIT3 := Lib.hid hit3
          have HF1 := Lib.hid hf1
          clear hit3 hf1
          cases hic : Gm.isC c rr with
          | true =>
            clear hic
            go_wp2
            go_roundw
            case rel => exact ⟨pos + wd, 3, .inr rfl, rfl, HIT3.out, HF2.out.trans HF1.out⟩
            case measure =>
              simp only [World.iterPos, HIT3.out, HIT.out]
              omega
          | false =>
            clear hic
            go_wp2
            go_ret
            exact ⟨rfl, HF2.out.trans HF1.out⟩
        · have hnx : ∀ ty, (Instr.next (.pointer (some ⟨w.heap.size, 0, none⟩)) true ty).run Tryd.prog wr = _ := fun ty => Lib.run_next_end_at wr w.heap.size ⟨nm.toArray⟩ pos ty hit hp
          clear hp
          go_wp2_with fail
          refine (HV.out _ HF.out).mono ?_
          rintro e w1 ⟨rfl, hf1⟩
          go_wp2
          go_ret
          exact ⟨rfl, HF.out.trans hf1⟩
end Go.Proofs.YtghhakilkmbpdaaDoor
