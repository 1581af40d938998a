/- Walks: mend.completion. -/
import Derived.Test.YtghhakilkmbpdaaDoorWFull
import Derived.Test.YtghhakilkmbpdaaDoorWConv
namespace Go.Proofs.YtghhakilkmbpdaaDoor
open Go Go.RowKit

theorem Begins_n {B : Nat} (c : Nat) (hc : c < 6) (b : Gm.Bs) (n : Nat) (hn : b.length = n) (ao : Option Addr) (cap : Nat) (w : World) (h : Env B w) (hb : BAt w ao b) (hm : n ≤ 9223372036854775807) :
    Calls Tryd.prog 39 #[.int .i64 c, .slice ao n cap] w fun e w' => e = .returned (.bool (Gm.begins c b)) ∧ Fr S0 w w' := by
  subst hn
  exact Begins_any c hc b ao cap w h hb hm

theorem compl_at {c : Nat} {q : Gm.Bs} (hb : Gm.begins c q = true) (hw : Gm.whole q = false) {x : UInt8} (hx : Gm.begins c (q ++ [x]) = true)
    (hno : ∀ y : UInt8, y.toNat < x.toNat → Gm.begins c (q ++ [y]) = false) : Gm.compl c q = x :: Gm.compl c (q ++ [x]) := by
  obtain ⟨y, hy, e, hle⟩ := Gm.compl_cons hb hw
  have h1 := hle x hx
  have : y = x := by
    rw [← UInt8.toNat_inj]
    rcases Nat.lt_or_ge y.toNat x.toNat with h | h
    · rw [hno y h] at hy; cases hy
    · omega
  rw [this] at e
  exact e
theorem begins_len {c : Nat} {q : Gm.Bs} (hb : Gm.begins c q = true) : 1 ≤ q.length ∧ q.length ≤ 4 := by
  cases q with
  | nil => exact absurd rfl (Gm.begins_ne hb)
  | cons x t =>
    obtain ⟨wd, l, least, k, hl, hk, _⟩ := Gm.begins_lead hb
    have := Gm.lead_le hl; simp; omega

def strLen : Value → Nat
  | .string s => s.size
  | _ => 0

set_option maxRecDepth 100000 in
set_option maxHeartbeats 1600000 in
theorem completion_any {B : Nat} {c : Nat} (hc : c < 6) (p : Gm.Bs) (hb : Gm.begins c p = true) (w : World) (h : Env B w) :
    Calls Tryd.prog 38 #[.int .i64 c, .string ⟨p.toArray⟩] w fun e w' => e = .returned (.string ⟨(Gm.compl c p).toArray⟩) ∧ Fr S0 w w' := by
  have hp4 : p.length ≤ 4 := by
    cases p with
    | nil => simp
    | cons x t =>
      obtain ⟨wd, l, least, k, hl, hk, _⟩ := Gm.begins_lead hb
      have := Gm.lead_le hl; simp; omega
  go_enter Tryd.func38, Tryd.ntmps38
  go_wp2_with fail
  go_loopw [5, 6] (fun s _ wr => ∃ r : Gm.Bs, s = .string ⟨r.toArray⟩ ∧ Gm.begins c (p ++ r) = true ∧ Gm.compl c p = r ++ Gm.compl c (p ++ r) ∧ r.length ≤ 3 ∧ Fr S0 w wr) (fun s _ _ => 4 - strLen s)
  case atStart => exact ⟨[], rfl, by simpa using hb, by simp, by simp, Fr.refl _ _⟩
  case round =>
    obtain ⟨r, rfl, hbr, hcr, hlr, hfr⟩ := hrel
    have HB := Lib.hid hbr
    have HC := Lib.hid hcr
    have HF := Lib.hid hfr
    clear hbr hcr hfr
    have hcat := cat_list
    have hsz := size_list
    have hE := h.fr0 HF.out
    have HE := Lib.hid hE
    clear hE
    cases hw : Gm.whole (p ++ r) with
    | true =>
      have HW := Lib.hid hw
      clear hw
      go_wp2_with (go_at_call 48; refine (full_any hc (p ++ r) HB.out _ HE.out).mono ?_; rw [HW.out]; rintro e w' ⟨rfl, HF2⟩)
      go_ret
      have hc := HC.out
      rw [Gm.compl_whole HW.out, List.append_nil] at hc
      exact ⟨rs (by rw [hc]), HF.out.trans HF2⟩
    | false =>
      have HW := Lib.hid hw
      clear hw
      go_wp2_with (go_at_call 48; refine (full_any hc (p ++ r) HB.out _ HE.out).mono ?_; rw [HW.out]; rintro e w1 ⟨rfl, HF2⟩)
      have HF3 := Lib.hid HF2
      clear HF2
      go_loopw [5, 6] (fun s x wr' => ∃ k : Nat, k ≤ 256 ∧ s = .string ⟨r.toArray⟩ ∧ x = .int .i64 k ∧ (∀ y : UInt8, y.toNat < k → Gm.begins c (p ++ r ++ [y]) = false) ∧ Fr S0 w wr') (fun _ x _ => 256 - (intOf x).toNat)
      case atStart => exact ⟨0, by omega, rfl, rfl, fun y hy => by omega, HF.out.trans HF3.out⟩
      case round =>
        obtain ⟨k, hk, rfl, rfl, hno, hfr⟩ := hrel
        have HN := Lib.hid hno
        have HF4 := Lib.hid hfr
        clear hno hfr
        by_cases hlt : k < 256
        · have hco := conv_one k hlt
          have hcb := conv_bytes
          have hca := cat_one
          have hs1 := size_one
          have hfa : ∀ l, Fr S0 w (bworld (wr.alloc (.cells #[.int .u8 (k : Int)] 5)) l) := fun l => (HF4.out.trans (Fr.alloc _ _ _)).trans (bworld_fr _ _ _)
          have HA := Lib.hid hfa
          clear hfa
          have hy : (UInt8.ofNat k).toNat = k := by simp; omega
          have HY := Lib.hid hy
          clear hy
          cases hbk : Gm.begins c (p ++ (r ++ [UInt8.ofNat k])) with
          | true =>
            have HK := Lib.hid hbk
            clear hbk
            go_wp2_with fail
            refine (Begins_n c hc (p ++ (r ++ [UInt8.ofNat k])) _ (by simp) _ _ _ (h.fr0 (HA.out _)) (bworld_bytes_at _ _ _ (by simp)) (by omega)).mono ?_
            rw [HK.out]
            rintro e w2 ⟨rfl, HF5⟩
            go_wp2
            refine ⟨⟨r ++ [UInt8.ofNat k], rfl, HK.out, ?_, ?_, ((HA.out _).trans HF5).trans (Fr.alloc _ _ _)⟩, ?_⟩
            · have e := compl_at HB.out HW.out (x := UInt8.ofNat k) (by rw [List.append_assoc]; exact HK.out) (fun y hy => HN.out y (by rw [HY.out] at hy; exact hy))
              rw [HC.out, e]; simp
            · have h1 := begins_len HK.out
              have h2 := begins_len hb
              simp at h1 ⊢
              omega
            · have h1 := begins_len HK.out
              have h2 := begins_len hb
              simp [strLen, size_list] at h1 ⊢
              omega
          | false =>
            have HK := Lib.hid hbk
            clear hbk
            go_wp2_with fail
            refine (Begins_n c hc (p ++ (r ++ [UInt8.ofNat k])) _ (by simp) _ _ _ (h.fr0 (HA.out _)) (bworld_bytes_at _ _ _ (by simp)) (by omega)).mono ?_
            rw [HK.out]
            rintro e w2 ⟨rfl, HF5⟩
            go_wp2
            go_roundw
            case rel =>
              refine ⟨k + 1, by omega, rfl, by go_num, fun y hy => ?_, (HA.out _).trans HF5⟩
              by_cases e : y.toNat = k
              · have : y = UInt8.ofNat k := by rw [← UInt8.toNat_inj, HY.out]; exact e
                rw [this, List.append_assoc]; exact HK.out
              · exact HN.out y (by omega)
            case measure => simp [intOf]; omega
        · exfalso
          obtain ⟨y, hy⟩ := Gm.begins_next HB.out HW.out
          have := HN.out y (by have := y.toNat_lt; omega)
          rw [hy] at this
          cases this
end Go.Proofs.YtghhakilkmbpdaaDoor
