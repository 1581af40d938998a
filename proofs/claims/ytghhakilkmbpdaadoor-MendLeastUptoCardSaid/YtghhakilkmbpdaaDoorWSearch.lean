/- Walks: mend.search, mend.unlike. -/
import Derived.Test.YtghhakilkmbpdaaDoorWMap
namespace Go.Proofs.YtghhakilkmbpdaaDoor
open Go Go.RowKit

theorem gcap_ge (W : World) (l : Gm.Bs) : l.length ≤ gcap W l := grownCap_ge _ _ _ _
theorem wholeName_n {B : Nat} (b : Gm.Bs) (n : Nat) (hn : b.length = n) (bk off cap : Nat) (hcap : b.length ≤ cap) (hcap2 : cap ≤ 9223372036854775807) (hsmall : b.length ≤ 1000000000000) (w : World) (h : Env B w) (hb : BAt w (some ⟨bk, off, none⟩) b) :
    Calls Tryd.prog 42 #[.slice (some ⟨bk, off, none⟩) n cap] w fun e w' => (∃ k : Nat, e = .returned (.int .i64 k) ∧ (k = n ↔ Gm.nameLike [] 2 b = true)) ∧ Fr S0 w w' := by
  subst hn
  refine wholeName_any b bk off cap hcap hcap2 hsmall w h fun j hj => ?_
  rcases hb with e | ⟨bk', off', e, hh⟩
  · rw [e] at hj; simp at hj
  · cases e; exact hh j hj
theorem gcap_le (W : World) (l : Gm.Bs) (h : l.length ≤ 1000000000000) : gcap W l ≤ 9223372036854775807 := by
  have := grownCap_le_maxLen W l.length 0 5 (by unfold maxLen; omega)
  unfold maxLen at this
  exact this

def seaF (had : List Gm.Bs) (n : Nat) (nm : Gm.Bs) (x : UInt8) : Option Gm.Bs := if Gm.nameLike [] 2 (nm ++ [x]) then Gm.searchN had n (nm ++ [x]) else none

theorem searchN_succ (had : List Gm.Bs) (n : Nat) (nm : Gm.Bs) : Gm.searchN had (n + 1) nm = (Gm.firstOf (seaF had n nm) 256 0).map fun p => p.1 :: p.2 := rfl

def SeaPost (had : List Gm.Bs) (n : Nat) (nm rest : Gm.Bs) (w : World) (e : Ending) (w' : World) : Prop :=
  ∃ str : ByteArray, e = .returned (.tuple #[.string str, .bool (Gm.searchN had n nm).isSome]) ∧ (∀ t, Gm.searchN had n nm = some t → str = ⟨(rest ++ t).toArray⟩) ∧ Fr S0 w w'

theorem firstOf_step {α : Type} (f : UInt8 → Option α) (i : Nat) (hi : i < 256) : Gm.firstOf f (256 - i) i = match f (UInt8.ofNat i) with | some a => some (UInt8.ofNat i, a) | none => Gm.firstOf f (256 - (i + 1)) (i + 1) := by
  obtain ⟨m, hm⟩ : ∃ m, 256 - i = m + 1 := ⟨255 - i, by omega⟩
  rw [hm, show 256 - (i + 1) = m by omega]
  rfl

set_option maxRecDepth 100000 in
set_option maxHeartbeats 800000 in
theorem search_any {B m : Nat} {had : List Gm.Bs} : ∀ (k : Nat) (name rest : Gm.Bs) (N : Nat), N = rest.length + k → name.length + rest.length + k ≤ 1000000000 → Gm.nameLike [] 2 (name ++ rest) = true → ∀ w, Env B w → HadAt w m had →
    Calls Tryd.prog 52 #[.string ⟨name.toArray⟩, .string ⟨rest.toArray⟩, .int .i64 N, .map (some m)] w (SeaPost had k (name ++ rest) rest w) := by
  intro k
  induction k with
  | zero =>
    intro name rest N hN hsm hlike w henv hhad
    rw [Nat.add_zero] at hN
    subst hN
    have hnm : ∀ W, Fr S0 w W → Calls Tryd.prog 55 #[.string ⟨(name ++ rest).toArray⟩] W fun e w' => e = .returned (.bool (Gm.isName [] 2 (name ++ rest))) ∧ Fr S0 W w' :=
      fun W hW => Name_any (name ++ rest) hlike (by simp; omega) W (henv.fr0 hW)
    have hlk : ∀ W, Fr S0 w W → (Instr.lookup 78 (.map (some m)) (.string ⟨(name ++ rest).toArray⟩) false).run Tryd.prog W = .ok (.int .i64 (if (name ++ rest) ∈ had then 1 else 0)) W :=
      fun W hW => had_lookup (hhad.fr hW (fun h => h)) _ (by unfold maxLen; simp; omega)
    have hs0 : Gm.searchN had 0 (name ++ rest) = if Gm.isName [] 2 (name ++ rest) = true ∧ (name ++ rest) ∉ had then some [] else none := rfl
    have hz1 := size_list rest
    have hz2 := size_list name
    have hcat : (⟨name.toArray⟩ : ByteArray) ++ (⟨rest.toArray⟩ : ByteArray) = ⟨(name ++ rest).toArray⟩ := cat_list _ _
    have HS0 := Lib.hid hs0
    clear hlike hs0 henv hhad
    generalize name ++ rest = nm at hcat hnm hlk HS0 ⊢
    have HLK := Lib.hid hlk
    have HNM := Lib.hid hnm
    clear hnm hlk
    cases hin : Gm.isName [] 2 nm with
    | false =>
      have hr : Gm.searchN had 0 nm = none := by rw [HS0.out, if_neg (by rw [hin]; simp)]
      have hnm : ∀ i : Ext w, Calls Tryd.prog 55 #[.string ⟨nm.toArray⟩] (up i) fun e w' => e = .returned (.bool false) ∧ Fr S0 (up i) w' := fun i => hin ▸ HNM.out _ (up_fr i)
      have HN2 := Lib.hid hnm
      have HR := Lib.hid hr
      clear hin hr hnm
      go_enter Tryd.func52, Tryd.ntmps52
      go_wp2_with fail
      refine wp_region_up (by kernel_rfl) (by kernel_rfl) ?_
      repeat (first | go_big_quiet_step (first | (go_at_call 55; exact calls_up (HN2.out _))) | quiet_step (first | (go_at_call 55; exact calls_up (HN2.out _))))
      refine wpQuiet_nil ?_
      rintro _ ⟨⟨w1, HF1⟩, rfl⟩
      try dsimp only [up]
      go_wp2
      go_ret2
      unfold SeaPost
      rw [HR.out]
      refine ⟨_, rfl, ?_, HF1⟩
      intro t h
      cases h
    | true =>
      have hnm : ∀ i : Ext w, Calls Tryd.prog 55 #[.string ⟨nm.toArray⟩] (up i) fun e w' => e = .returned (.bool true) ∧ Fr S0 (up i) w' := fun i => hin ▸ HNM.out _ (up_fr i)
      have HN2 := Lib.hid hnm
      by_cases hmem : nm ∈ had
      · have hr : Gm.searchN had 0 nm = none := by rw [HS0.out, if_neg (fun h => h.2 hmem)]
        have hl : ∀ i : Ext w, (Instr.lookup 78 (.map (some m)) (.string ⟨nm.toArray⟩) false).run Tryd.prog (up i) = .ok (.int .i64 1) (up i) := fun i => by rw [HLK.out _ (up_fr i), if_pos hmem]
        have HR := Lib.hid hr
        clear hin hr hnm hmem
        go_enter Tryd.func52, Tryd.ntmps52
        go_wp2_with fail
        refine wp_region_up (by kernel_rfl) (by kernel_rfl) ?_
        repeat (first | go_big_quiet_step (first | (go_at_call 55; exact calls_up (HN2.out _))) | quiet_step (first | (go_at_call 55; exact calls_up (HN2.out _))))
        refine wpQuiet_nil ?_
        rintro _ ⟨⟨w1, HF1⟩, rfl⟩
        try dsimp only [up]
        go_wp2
        go_ret2
        unfold SeaPost
        rw [HR.out]
        refine ⟨_, rfl, ?_, HF1⟩
        intro t h
        cases h
      · have hr : Gm.searchN had 0 nm = some [] := by rw [HS0.out, if_pos ⟨hin, hmem⟩]
        have hl : ∀ i : Ext w, (Instr.lookup 78 (.map (some m)) (.string ⟨nm.toArray⟩) false).run Tryd.prog (up i) = .ok (.int .i64 0) (up i) := fun i => by rw [HLK.out _ (up_fr i), if_neg hmem]
        have HR := Lib.hid hr
        clear hin hr hnm hmem
        go_enter Tryd.func52, Tryd.ntmps52
        go_wp2_with fail
        refine wp_region_up (by kernel_rfl) (by kernel_rfl) ?_
        repeat (first | go_big_quiet_step (first | (go_at_call 55; exact calls_up (HN2.out _))) | quiet_step (first | (go_at_call 55; exact calls_up (HN2.out _))))
        refine wpQuiet_nil ?_
        rintro _ ⟨⟨w1, HF1⟩, rfl⟩
        try dsimp only [up]
        go_wp2
        go_ret2
        unfold SeaPost
        rw [HR.out]
        refine ⟨_, rfl, ?_, HF1⟩
        intro t h
        cases h
        rw [List.append_nil]
  | succ k ih =>
    intro name rest N hN hsm hlike w henv hhad
    have HEnv := Lib.hid henv
    have HHad := Lib.hid hhad
    have IH := Lib.hid ih
    have hz1 := size_list rest
    have hz2 := size_list name
    have hssucc := searchN_succ had k (name ++ rest)
    have HSS := Lib.hid hssucc
    have HN := Lib.hid hN
    have gN : ((rest.length : Int) == (N : Int)) = false := by rw [beq_eq_false_iff_ne]; omega
    have hNb : N ≤ 1000000000 := by omega
    clear henv hhad ih hlike hssucc hN
    go_enter Tryd.func52, Tryd.ntmps52
    go_wp2_with fail
    go_loopg [10] 256 (fun q iv wr => ∃ i : Nat, i ≤ 256 ∧ q = 256 - i ∧ iv = .int .i64 i ∧ Gm.firstOf (seaF had k (name ++ rest)) (256 - i) i = Gm.firstOf (seaF had k (name ++ rest)) 256 0 ∧ Fr S0 w wr)
    case atStart => exact ⟨0, by omega, rfl, rfl, rfl, Fr.refl _ _⟩
    case round =>
      obtain ⟨i, hi, hk, rfl, hfo, hf⟩ := hrel
      have HK := Lib.hid hk
      have HFO := Lib.hid hfo
      have HF := Lib.hid hf
      clear hk hfo hf
      by_cases hlt : i < 256
      · have hco := conv_one i hlt
        have hcb := conv_bytes
        have hca := cat_list
        have hcx := cat_one
        have hs1 := size_one
        have hst := firstOf_step (seaF had k (name ++ rest)) i hlt
        rw [HFO.out] at hst
        have HST := Lib.hid hst
        clear hst
        generalize hx : UInt8.ofNat i = x at hco HST
        have hnmx : name ++ (rest ++ [x]) = name ++ rest ++ [x] := by simp
        have HNX := Lib.hid hnmx
        have hlen2 : (name ++ (rest ++ [x])).length ≤ 1000000000 := by simp; omega
        have HL2 := Lib.hid hlen2
        clear hx hnmx hlen2
        go_wp2_with fail
        have hfa : Fr S0 w (bworld (wr.alloc (.cells #[.int .u8 (i : Int)] 5)) (name ++ (rest ++ [x]))) := (HF.out.trans (Fr.alloc _ _ _)).trans (bworld_fr _ _ _)
        refine (wholeName_n (name ++ (rest ++ [x])) _ (by simp) _ _ _ (gcap_ge _ _) (gcap_le _ _ (by have := HL2.out; omega)) (by have := HL2.out; omega) _ (HEnv.out.fr0 hfa) (bworld_bytes_at _ _ _ (by simp))).mono ?_
        rintro e w2 ⟨⟨q, rfl, hq⟩, hf2⟩
        have HFA := Lib.hid (hfa.trans hf2)
        clear hfa hf2 hco hcb hca hcx hs1
        cases hnl : Gm.nameLike [] 2 (name ++ (rest ++ [x])) with
        | true =>
          obtain rfl := hq.2 hnl
          have hsx : seaF had k (name ++ rest) x = Gm.searchN had k (name ++ rest ++ [x]) := by unfold seaF; rw [← HNX.out, hnl]; rfl
          have hst := HST.out
          rw [hsx] at hst
          have hcall := IH.out name (rest ++ [x]) N (by have := HN.out; simp; omega) (by have := HN.out; simp; omega) hnl w2 (HEnv.out.fr0 HFA.out) (HHad.out.fr HFA.out (fun h => h))
          rw [HNX.out] at hcall
          have HC := Lib.hid hcall
          have HS := Lib.hid hst
          clear hcall hst hsx hnl hq
          go_wp2_with fail
          refine HC.out.mono ?_
          rintro e w3 ⟨str, rfl, hstr, hf3⟩
          have HF3 := Lib.hid hf3
          clear hf3
          cases hse : Gm.searchN had k (name ++ rest ++ [x]) with
          | some t =>
            have hstr := hstr t hse
            rw [hse] at HS
            subst hstr
            have hr : Gm.searchN had (k + 1) (name ++ rest) = some (x :: t) := by rw [HSS.out, HS.out]; rfl
            have HR := Lib.hid hr
            clear hr hse
            dsimp only [Option.isSome_some]
            go_wp2
            go_ret2
            unfold SeaPost
            rw [HR.out]
            refine ⟨_, rfl, ?_, HFA.out.trans HF3.out⟩
            intro t' h
            cases h
            simp
          | none =>
            rw [hse] at HS
            clear hse hstr
            dsimp only [Option.isSome_none]
            go_wp2
            go_roundg (256 - (i + 1))
            case measure => rw [HK.out]; omega
            case rel => exact ⟨i + 1, by omega, rfl, by go_num, HS.out.symm, HFA.out.trans HF3.out⟩
        | false =>
          have hqn : ¬ q = name.length + (rest.length + 1) := fun e => by rw [hq.1 e] at hnl; cases hnl
          have gq : ((q : Int) == (name.length : Int) + ((rest.length : Int) + 1)) = false := by rw [beq_eq_false_iff_ne]; omega
          have hsx : seaF had k (name ++ rest) x = none := by unfold seaF; rw [← HNX.out, hnl]; rfl
          have hst := HST.out
          rw [hsx] at hst
          have HS := Lib.hid hst
          clear hst hsx hnl hq hqn
          go_wp2
          go_roundg (256 - (i + 1))
          case measure => rw [HK.out]; omega
          case rel => exact ⟨i + 1, by omega, rfl, by go_num, HS.out.symm, HFA.out⟩
      · obtain rfl : i = 256 := by omega
        have hr : Gm.searchN had (k + 1) (name ++ rest) = none := by rw [HSS.out, ← HFO.out]; rfl
        have HR := Lib.hid hr
        clear hr
        go_wp2
        go_ret2
        unfold SeaPost
        rw [HR.out]
        refine ⟨_, rfl, ?_, HF.out⟩
        intro t h
        cases h
end Go.Proofs.YtghhakilkmbpdaaDoor
