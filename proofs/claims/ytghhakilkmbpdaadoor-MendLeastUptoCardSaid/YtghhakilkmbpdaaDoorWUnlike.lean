/- Walks: mend.unlike. -/
import Derived.Test.YtghhakilkmbpdaaDoorWSearch
namespace Go.Proofs.YtghhakilkmbpdaaDoor
open Go Go.RowKit

theorem unlike_found (had : List Gm.Bs) (nm : Gm.Bs) (hne : nm ≠ []) (hl : Gm.nameLike [] 2 nm = true) : ∃ k t, k < had.length + 6 ∧ Gm.searchN had k nm = some t ∧ (∀ i, i < k → Gm.searchN had i nm = none) ∧ Gm.unlike nm had = t ∧ t.length = k := by
  rw [Gm.nameLike_iff _ _ _ (.inl rfl)] at hl
  obtain ⟨⟨p, c⟩, hs⟩ := Option.isSome_iff_exists.1 hl
  have hp : p ≠ [] ∨ c = 3 := by
    by_cases h : p = []
    · subst h; exact .inr (scan_nil hne hs)
    · exact .inl h
  obtain ⟨t', h1, h2⟩ := Gm.nm_exists had nm p c hs hp
  obtain ⟨t, ht⟩ := Gm.upward_found (Gm.finds_nm had) (m := had.length + 6) (k := 0) (by omega) (by omega) h2
  obtain ⟨k, k1, k2, k3, k4⟩ := Gm.upward_some _ _ _ _ ht
  refine ⟨k, t, by omega, k3, fun i hi => k4 i (by omega) hi, ?_, (Gm.find_some (Gm.finds_nm had) k nm t k3).1⟩
  unfold Gm.unlike
  rw [ht]
  rfl

set_option maxHeartbeats 800000 in
theorem unlike_any {B m : Nat} {had : List Gm.Bs} (nm : Gm.Bs) (hne : nm ≠ []) (hl : Gm.nameLike [] 2 nm = true) (hsm : nm.length ≤ 100000000) (hsm2 : had.length ≤ 100000000) (w : World) (henv : Env B w) (hhad : HadAt w m had) :
    Calls Tryd.prog 43 #[.string ⟨nm.toArray⟩, .map (some m)] w fun e w' => e = .returned (.string ⟨(Gm.unlike nm had).toArray⟩) ∧ (Gm.unlike nm had).length ≤ had.length + 6 ∧ Fr S0 w w' := by
  obtain ⟨k, t, k1, k2, k3, k4, k5⟩ := unlike_found had nm hne hl
  rw [k4]
  have K2 := Lib.hid k2
  have K3 := Lib.hid k3
  have K5 := Lib.hid k5
  have HEnv := Lib.hid henv
  have HHad := Lib.hid hhad
  have HL := Lib.hid hl
  clear k2 k3 k4 k5 henv hhad hl hne
  go_enter Tryd.func43, Tryd.ntmps43
  go_wp2_with fail
  go_loopg [5] k (fun q nv wr => ∃ j : Nat, j ≤ k ∧ q = k - j ∧ nv = .int .i64 j ∧ Fr S0 w wr)
  case atStart => exact ⟨0, by omega, rfl, rfl, Fr.refl _ _⟩
  case round =>
    obtain ⟨j, hj, hq, rfl, hf⟩ := hrel
    have HQ := Lib.hid hq
    have HF := Lib.hid hf
    clear hq hf
    have hcall := search_any j nm [] j (by simp) (by simp; omega) (by rw [List.append_nil]; exact HL.out) wr (HEnv.out.fr0 HF.out) (HHad.out.fr HF.out (fun h => h))
    rw [List.append_nil] at hcall
    have HC := Lib.hid hcall
    clear hcall
    go_wp2_with fail
    refine HC.out.mono ?_
    rintro e w3 ⟨str, rfl, hstr, hf3⟩
    have HF3 := Lib.hid hf3
    clear hf3
    by_cases hjk : j = k
    · subst hjk
      have hstr := hstr t K2.out
      simp only [List.nil_append] at hstr
      subst hstr
      rw [K2.out]
      dsimp only [Option.isSome_some]
      go_wp2
      go_ret
      exact ⟨rfl, by rw [K5.out]; omega, HF.out.trans HF3.out⟩
    · clear hstr
      rw [K3.out j (by omega)]
      dsimp only [Option.isSome_none]
      go_wp2
      go_roundg (k - (j + 1))
      case measure => rw [HQ.out]; omega
      case rel => exact ⟨j + 1, by omega, rfl, by go_num, HF.out.trans HF3.out⟩
end Go.Proofs.YtghhakilkmbpdaaDoor
