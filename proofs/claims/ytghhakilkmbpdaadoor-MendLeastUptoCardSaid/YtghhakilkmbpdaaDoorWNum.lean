/- Walks: mend.value, mend.more, mend.numberRest. -/
import Derived.Test.YtghhakilkmbpdaaDoorWUntil
namespace Gm
/-- the digits, ascending -/
def dg (hex : Bool) : Bs := if hex then [48, 49, 50, 51, 52, 53, 54, 55, 56, 57, 65, 66, 67, 68, 69, 70, 97, 98, 99, 100, 101, 102] else [48, 49, 50, 51, 52, 53, 54, 55, 56, 57]
def tryD {α : Type} (f : UInt8 → Option α) : Bs → Option (UInt8 × α)
  | [] => none
  | x :: t => match f x with
    | some a => some (x, a)
    | none => tryD f t
theorem tryD_some {α : Type} (f : UInt8 → Option α) : ∀ ds : Bs, ds.Pairwise (fun a b => a.toNat < b.toNat) → ∀ x a, tryD f ds = some (x, a) → f x = some a ∧ ∀ y ∈ ds, y.toNat < x.toNat → f y = none := by
  intro ds
  induction ds with
  | nil => intro _ x a h; cases h
  | cons y ds ih =>
    intro hp x a h
    obtain ⟨h1, h2⟩ := List.pairwise_cons.1 hp
    simp only [tryD] at h
    cases hy : f y with
    | some b =>
      rw [hy] at h
      simp only [Option.some.injEq, Prod.mk.injEq] at h
      obtain ⟨rfl, rfl⟩ := h
      refine ⟨hy, fun z hz hlt => ?_⟩
      rcases List.mem_cons.1 hz with rfl | hz
      · omega
      · have := h1 z hz; omega
    | none =>
      rw [hy] at h
      obtain ⟨i1, i2⟩ := ih h2 x a h
      refine ⟨i1, fun z hz hlt => ?_⟩
      rcases List.mem_cons.1 hz with rfl | hz
      · exact hy
      · exact i2 z hz hlt
theorem tryD_none {α : Type} (f : UInt8 → Option α) : ∀ ds : Bs, tryD f ds = none → ∀ y ∈ ds, f y = none := by
  intro ds
  induction ds with
  | nil => intro _ y hy; cases hy
  | cons z ds ih =>
    intro h y hy
    simp only [tryD] at h
    cases hz : f z with
    | some b => rw [hz] at h; cases h
    | none =>
      rw [hz] at h
      rcases List.mem_cons.1 hy with rfl | hy
      · exact hz
      · exact ih h y hy
theorem tryD_eq {α : Type} (f : UInt8 → Option α) (ds : Bs) (hp : ds.Pairwise (fun a b => a.toNat < b.toNat)) (hm : ∀ x, f x ≠ none → x ∈ ds) : firstOf f 256 0 = tryD f ds := by
  cases h1 : firstOf f 256 0 with
  | none =>
    cases h2 : tryD f ds with
    | none => rfl
    | some q =>
      have := (tryD_some f ds hp q.1 q.2 h2).1
      rw [none256 h1] at this
      cases this
  | some q =>
    obtain ⟨a1, a2⟩ := first256 (x := q.1) (a := q.2) h1
    cases h2 : tryD f ds with
    | none =>
      have := tryD_none f ds h2 q.1 (hm _ (by rw [a1]; simp))
      rw [a1] at this
      cases this
    | some q' =>
      obtain ⟨b1, b2⟩ := tryD_some f ds hp q'.1 q'.2 h2
      have e : q.1 = q'.1 := by
        rw [← UInt8.toNat_inj]
        rcases Nat.lt_trichotomy q.1.toNat q'.1.toNat with h | h | h
        · have := b2 q.1 (hm _ (by rw [a1]; simp)) h
          rw [a1] at this
          cases this
        · exact h
        · have := a2 q'.1 h
          rw [b1] at this
          cases this
      rw [e, b1] at a1
      simp only [Option.some.injEq] at a1
      have : q = q' := Prod.ext e a1.symm
      rw [this]
theorem dg_sorted (hex : Bool) : (dg hex).Pairwise (fun a b => a.toNat < b.toNat) := by cases hex <;> decide
theorem dg_mem (hex : Bool) (x : UInt8) : (digitOf hex x).isSome = true ↔ x ∈ dg hex := by
  have h : ∀ n : Fin 256, ((digitOf hex (UInt8.ofNat n)).isSome = true ↔ UInt8.ofNat n ∈ dg hex) := by cases hex <;> decide +kernel
  have := h ⟨x.toNat, x.toNat_lt⟩
  simpa using this
theorem dg_digit (hex : Bool) (i : Nat) (hi : i < (dg hex).length) : ∃ d, digitOf hex ((dg hex).getD i 0) = some d ∧ d < 16 := by
  have h : ∀ n : Fin (dg hex).length, ∃ d, digitOf hex ((dg hex).getD n 0) = some d ∧ d < 16 := by
    have : ∀ n : Fin (dg hex).length, ((digitOf hex ((dg hex).getD n 0)).any (fun d => decide (d < 16))) = true := by cases hex <;> decide +kernel
    intro n
    have := this n
    cases hd : digitOf hex ((dg hex).getD n 0) with
    | none => rw [hd] at this; cases this
    | some d => rw [hd] at this; exact ⟨d, rfl, by simpa using this⟩
  exact h ⟨i, hi⟩
theorem tryD_drop {α : Type} (f : UInt8 → Option α) (ds : Bs) (i : Nat) (hi : i < ds.length) : tryD f (ds.drop i) = match f (ds.getD i 0) with | some a => some (ds.getD i 0, a) | none => tryD f (ds.drop (i + 1)) := by
  rw [List.drop_eq_getElem_cons hi]
  have : ds.getD i 0 = ds[i] := by simp [List.getD, hi]
  rw [this]
  rfl
def moreF (hex : Bool) (n v : Nat) (x : UInt8) : Option Bs := match digitOf hex x with | none => none | some d => moreD hex n (v * base hex + d)
theorem moreD_succ (hex : Bool) (n v : Nat) : moreD hex (n + 1) v = if 0x10FFFF < v then none else (tryD (moreF hex n v) (dg hex)).map fun p => p.1 :: p.2 := by
  rw [← tryD_eq (moreF hex n v) (dg hex) (dg_sorted hex) ?_]
  · rfl
  · intro x hx
    rw [← dg_mem hex]
    unfold moreF at hx
    cases h : digitOf hex x with
    | none => rw [h] at hx; exact absurd rfl hx
    | some d => rfl
theorem moreD_len (hex : Bool) : ∀ (n v : Nat) (t : Bs), moreD hex n v = some t → t.length = n := fun n v t h => (find_some (finds_num hex) n v t h).1
end Gm
namespace Go.Proofs.YtghhakilkmbpdaaDoor
open Go Go.RowKit

theorem value_any (hex : Bool) (x : UInt8) (d : Nat) (h : Gm.digitOf hex x = some d) (w : World) :
    Calls Tryd.prog 45 #[.int .u8 x.toNat] w fun e w' => e = .returned (.int .i64 d) ∧ w' = w := by
  have hx := x.toNat_lt
  have h' : (48 ≤ x.toNat ∧ x.toNat ≤ 57 ∧ d = x.toNat - 48) ∨ (65 ≤ x.toNat ∧ x.toNat ≤ 70 ∧ d = x.toNat - 55) ∨ (97 ≤ x.toNat ∧ x.toNat ≤ 102 ∧ d = x.toNat - 87) := by
    unfold Gm.digitOf at h
    repeat' split at h
    all_goals simp at h
    all_goals omega
  clear h
  generalize x.toNat = k at *
  rcases h' with ⟨h1, h2, rfl⟩ | ⟨h1, h2, rfl⟩ | ⟨h1, h2, rfl⟩
  all_goals
    go_enter Tryd.func45, Tryd.ntmps45
    go_wp2
    go_ret
    exact ⟨ri (by omega), rfl⟩

theorem take_one {l : Gm.Bs} {i : Nat} (h : i < l.length) : List.take 1 (List.drop i l) = [l.getD i 0] := by
  rw [List.drop_eq_getElem_cons h, List.take_succ_cons, List.take_zero]
  simp [List.getD, h]
theorem at_list (l : Gm.Bs) (i : Nat) (h : i < (⟨l.toArray⟩ : ByteArray).size) : (⟨l.toArray⟩ : ByteArray)[i]'h = l.getD i 0 := by
  have h' : i < l.length := by simpa [ByteArray.size] using h
  show l.toArray[i]'_ = _
  simp [List.getD, h']

set_option maxHeartbeats 1600000 in
theorem more_any {B : Nat} (hex : Bool) : ∀ (n v : Nat), n ≤ 100 → v ≤ 100000000 → ∀ w, Env B w →
    Calls Tryd.prog 53 #[.int .i64 v, .int .i64 n, .string ⟨(Gm.dg hex).toArray⟩, .int .i64 (Gm.base hex : Nat)] w fun e w' =>
      e = .returned (.tuple #[.string ⟨((Gm.moreD hex n v).getD []).toArray⟩, .bool (Gm.moreD hex n v).isSome]) ∧ Fr S0 w w' := by
  intro n
  induction n with
  | zero =>
    intro v hn hv w henv
    have HEnv := Lib.hid henv
    clear henv
    by_cases hle : v ≤ 1114111
    · have hm : Gm.moreD hex 0 v = if Gm.isC 0 v = true then some [] else none := by simp [Gm.moreD, hle]
      rw [hm]
      clear hm
      go_enter Tryd.func53, Tryd.ntmps53
      go_wp2_with (go_at_call 46; refine (Is_any 0 (by omega) v _ HEnv.out).mono ?_; rintro e w' ⟨rfl, hf⟩)
      all_goals
        go_ret2
        exact ⟨rfl, hf⟩
    · have hm : Gm.moreD hex 0 v = none := by simp [Gm.moreD, hle]
      rw [hm]
      clear hm
      go_enter Tryd.func53, Tryd.ntmps53
      go_wp2
      go_ret2
      exact ⟨rfl, Fr.refl _ _⟩
  | succ n ih =>
    intro v hn hv w henv
    have HEnv := Lib.hid henv
    have IH := Lib.hid ih
    clear henv ih
    by_cases hle : 1114111 < v
    · have hm : Gm.moreD hex (n + 1) v = none := by rw [Gm.moreD_succ, if_pos hle]
      rw [hm]
      clear hm
      go_enter Tryd.func53, Tryd.ntmps53
      go_wp2
      go_ret2
      exact ⟨rfl, Fr.refl _ _⟩
    · have hm : Gm.moreD hex (n + 1) v = (Gm.tryD (Gm.moreF hex n v) (Gm.dg hex)).map fun p => p.1 :: p.2 := by rw [Gm.moreD_succ, if_neg hle]
      have HM := Lib.hid hm
      have hsz := size_list (Gm.dg hex)
      have hdl : (Gm.dg hex).length ≤ 22 := by cases hex <;> decide
      have hb : Gm.base hex ≤ 16 := by cases hex <;> decide
      clear hm
      go_enter Tryd.func53, Tryd.ntmps53
      go_wp2_with fail
      go_loopg [26] (Gm.dg hex).length (fun k iv wr => ∃ i : Nat, i ≤ (Gm.dg hex).length ∧ k = (Gm.dg hex).length - i ∧ iv = .int .i64 i ∧ Gm.tryD (Gm.moreF hex n v) ((Gm.dg hex).drop i) = Gm.tryD (Gm.moreF hex n v) (Gm.dg hex) ∧ Fr S0 w wr)
      case atStart => exact ⟨0, Nat.zero_le _, rfl, rfl, rfl, Fr.refl _ _⟩
      case round =>
        obtain ⟨i, hi, hk, rfl, ht, hf⟩ := hrel
        have HK := Lib.hid hk
        have HT := Lib.hid ht
        have HF := Lib.hid hf
        clear hk ht hf
        by_cases hlt : i < (Gm.dg hex).length
        · obtain ⟨d, hd, hd16⟩ := Gm.dg_digit hex i hlt
          have hvb : v * Gm.base hex ≤ 1114111 * 16 := Nat.mul_le_mul (by omega) hb
          have htd := Gm.tryD_drop (Gm.moreF hex n v) (Gm.dg hex) i hlt
          rw [HT.out] at htd
          have hmf : Gm.moreF hex n v ((Gm.dg hex).getD i 0) = Gm.moreD hex n (v * Gm.base hex + d) := by unfold Gm.moreF; rw [hd]
          rw [hmf] at htd
          have hval : ∀ (h : i < (⟨(Gm.dg hex).toArray⟩ : ByteArray).size) W, Calls Tryd.prog 45 #[.int .u8 ((⟨(Gm.dg hex).toArray⟩ : ByteArray)[i]'h).toNat] W fun e w' => e = .returned (.int .i64 d) ∧ w' = W := fun h W => by
            rw [at_list]
            exact value_any hex _ d hd W
          have HV := Lib.hid hval
          have HTD := Lib.hid htd
          clear hd htd hmf hval
          have hcall : Calls Tryd.prog 53 #[.int .i64 ((v * Gm.base hex + d : Nat) : Int), .int .i64 (n : Nat), .string ⟨(Gm.dg hex).toArray⟩, .int .i64 (Gm.base hex : Nat)] wr fun e w' =>
              e = .returned (.tuple #[.string ⟨((Gm.moreD hex n (v * Gm.base hex + d)).getD []).toArray⟩, .bool (Gm.moreD hex n (v * Gm.base hex + d)).isSome]) ∧ Fr S0 wr w' :=
            IH.out (v * Gm.base hex + d) (by omega) (by omega) wr (HEnv.out.fr0 HF.out)
          have HC := Lib.hid hcall
          clear hcall
          go_wp2_with fail
          refine (HV.out _ _).mono ?_
          rintro e w1 ⟨rfl, rfl⟩
          go_wp2_with fail
          refine HC.out.mono ?_
          cases hm : Gm.moreD hex n (v * Gm.base hex + d) with
          | some t =>
            rintro e w2 ⟨rfl, hf2⟩
            have htl := Gm.moreD_len hex n _ t hm
            have hmn : Gm.moreD hex (n + 1) v = some ((Gm.dg hex).getD i 0 :: t) := by rw [HM.out, HTD.out, hm]; rfl
            have HMN := Lib.hid hmn
            have HF2 := Lib.hid hf2
            clear hm hmn hf2
            have hcat := cat_list
            dsimp only [Option.getD_some, Option.isSome_some]
            have hst := size_list t
            go_wp2
            go_ret2
            rw [HMN.out]
            refine ⟨?_, HF.out.trans HF2.out⟩
            rw [show List.take 1 (List.drop i (Gm.dg hex)) = [(Gm.dg hex).getD i 0] from take_one hlt]
            rfl
          | none =>
            rintro e w2 ⟨rfl, hf2⟩
            have HM0 := Lib.hid hm
            have HF2 := Lib.hid hf2
            clear hm hf2
            dsimp only [Option.getD_none, Option.isSome_none]
            go_wp2
            go_roundg ((Gm.dg hex).length - (i + 1))
            case measure => rw [HK.out]; omega
            case rel => exact ⟨i + 1, hlt, rfl, by go_num, by rw [HTD.out, HM0.out], HF.out.trans HF2.out⟩
        · obtain rfl : i = (Gm.dg hex).length := by omega
          have ht := HT.out
          rw [List.drop_length] at ht
          have hmn : Gm.moreD hex (n + 1) v = none := by rw [HM.out, ← ht]; rfl
          have HMN := Lib.hid hmn
          clear hmn ht
          go_wp2
          go_ret2
          rw [HMN.out]
          exact ⟨rfl, HF.out⟩

/-- how many digits it takes -/
theorem num_found (hex : Bool) (v n : Nat) (hv : v ≤ 0x10FFFF) (hn : n = 0 → v = 0) (h : ¬ (n ≠ 0 ∧ Gm.isC 0 v = true)) : ∃ k t, 1 ≤ k ∧ k ≤ 4 ∧ Gm.moreD hex k v = some t ∧ (∀ i, 1 ≤ i → i < k → Gm.moreD hex i v = none) ∧
    Gm.numberRest hex v n = t ++ [59] := by
  obtain ⟨t', h1, h2⟩ := Gm.num_exists hex v hv
  have ht : 1 ≤ t'.length := by
    cases t' with
    | nil =>
      have h2 : Gm.accnum v := h2
      have ha := h2.2
      exfalso
      apply h
      refine ⟨?_, ha⟩
      rintro rfl
      rw [hn rfl, Gm.isC0] at ha
      omega
    | cons x t => simp
  obtain ⟨t, ht⟩ := Gm.upward_found (Gm.finds_num hex) (m := 4) (k := 1) ht (by omega) h2
  obtain ⟨k, k1, k2, k3, k4⟩ := Gm.upward_some _ _ _ _ ht
  refine ⟨k, t, k1, by omega, k3, k4, ?_⟩
  unfold Gm.numberRest
  rw [if_neg h, ht]
  rfl

set_option maxHeartbeats 1600000 in
theorem numberRest_any {B : Nat} (hex : Bool) (v n : Nat) (hv : v ≤ 0x10FFFF) (hn : n = 0 → v = 0) (hn2 : n ≤ 1000000000) (w : World) (henv : Env B w) :
    Calls Tryd.prog 44 #[.int .i64 v, .int .i64 n, .string ⟨(Gm.dg hex).toArray⟩, .int .i64 (Gm.base hex : Nat)] w fun e w' => e = .returned (.string ⟨(Gm.numberRest hex v n).toArray⟩) ∧ (Gm.numberRest hex v n).length ≤ 5 ∧ Fr S0 w w' := by
  have HEnv := Lib.hid henv
  clear henv
  by_cases h : n ≠ 0 ∧ Gm.isC 0 v = true
  · have hm : Gm.numberRest hex v n = [59] := by unfold Gm.numberRest; rw [if_pos h]
    rw [hm]
    obtain ⟨h0, hc⟩ := h
    have hpos : 0 < n := by omega
    clear hm hn h0
    go_enter Tryd.func44, Tryd.ntmps44
    go_wp2_with (go_at_call 46; refine (Is_any 0 (by omega) v _ HEnv.out).mono ?_; rw [hc]; rintro e w' ⟨rfl, hf⟩)
    go_ret
    exact ⟨rfl, by simp, hf⟩
  · obtain ⟨k, t, k1, k2, k3, k4, hm⟩ := num_found hex v n hv hn h
    have htl := Gm.moreD_len hex k v t k3
    rw [hm]
    have K3 := Lib.hid k3
    have K4 := Lib.hid k4
    clear hm k3 k4 hn
    go_enter Tryd.func44, Tryd.ntmps44
    by_cases hn0 : n = 0
    · subst hn0
      clear h
      go_wp2_with fail
      go_loopg [9] (k - 1) (fun m nv wr => ∃ j : Nat, 1 ≤ j ∧ j ≤ k ∧ m = k - j ∧ nv = .int .i64 j ∧ Fr S0 w wr)
      case atStart => exact ⟨1, Nat.le_refl _, k1, rfl, rfl, Fr.refl _ _⟩
      case round =>
        obtain ⟨j, j1, j2, hm, rfl, hf⟩ := hrel
        have HMm := Lib.hid hm
        have HF := Lib.hid hf
        clear hm hf
        have hcall := more_any hex j v (by omega) (by omega) _ (HEnv.out.fr0 HF.out)
        by_cases hj : j = k
        · subst hj
          rw [K3.out] at hcall
          have HC := Lib.hid hcall
          clear hcall
          have hcat := cat_one
          have hst := size_list t
          go_wp2_with fail
          refine HC.out.mono ?_
          rintro e w2 ⟨rfl, hf2⟩
          dsimp only [Option.getD_some, Option.isSome_some]
          go_wp2
          go_ret
          exact ⟨rfl, by simp; omega, HF.out.trans hf2⟩
        · rw [K4.out j j1 (by omega)] at hcall
          have HC := Lib.hid hcall
          clear hcall
          go_wp2_with fail
          refine HC.out.mono ?_
          rintro e w2 ⟨rfl, hf2⟩
          dsimp only [Option.getD_none, Option.isSome_none]
          have HF2 := Lib.hid hf2
          clear hf2
          go_wp2
          go_roundg (k - (j + 1))
          case measure => rw [HMm.out]; omega
          case rel => exact ⟨j + 1, by omega, by omega, rfl, by go_num, HF.out.trans HF2.out⟩
    · have hc : Gm.isC 0 v = false := by
        cases hc : Gm.isC 0 v with
        | false => rfl
        | true => exact absurd ⟨hn0, hc⟩ h
      have hpos : 0 < n := by omega
      clear h hn0
      go_wp2_with (go_at_call 46; refine (Is_any 0 (by omega) v _ HEnv.out).mono ?_; rw [hc]; rintro e w' ⟨rfl, hf⟩)
      have HFRW := Lib.hid hf
      clear hf
      go_loopg [9] (k - 1) (fun m nv wr => ∃ j : Nat, 1 ≤ j ∧ j ≤ k ∧ m = k - j ∧ nv = .int .i64 j ∧ Fr S0 w wr)
      case atStart => exact ⟨1, Nat.le_refl _, k1, rfl, rfl, HFRW.out⟩
      case round =>
        obtain ⟨j, j1, j2, hm, rfl, hf⟩ := hrel
        have HMm := Lib.hid hm
        have HF := Lib.hid hf
        clear hm hf
        have hcall := more_any hex j v (by omega) (by omega) _ (HEnv.out.fr0 HF.out)
        by_cases hj : j = k
        · subst hj
          rw [K3.out] at hcall
          have HC := Lib.hid hcall
          clear hcall
          have hcat := cat_one
          have hst := size_list t
          go_wp2_with fail
          refine HC.out.mono ?_
          rintro e w2 ⟨rfl, hf2⟩
          dsimp only [Option.getD_some, Option.isSome_some]
          go_wp2
          go_ret
          exact ⟨rfl, by simp; omega, HF.out.trans hf2⟩
        · rw [K4.out j j1 (by omega)] at hcall
          have HC := Lib.hid hcall
          clear hcall
          go_wp2_with fail
          refine HC.out.mono ?_
          rintro e w2 ⟨rfl, hf2⟩
          dsimp only [Option.getD_none, Option.isSome_none]
          have HF2 := Lib.hid hf2
          clear hf2
          go_wp2
          go_roundg (k - (j + 1))
          case measure => rw [HMm.out]; omega
          case rel => exact ⟨j + 1, by omega, by omega, rfl, by go_num, HF.out.trans HF2.out⟩
end Go.Proofs.YtghhakilkmbpdaaDoor
