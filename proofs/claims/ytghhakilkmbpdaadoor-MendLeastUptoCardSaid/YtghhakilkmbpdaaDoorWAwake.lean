/- Walks: the statement's awake. -/
import Derived.Test.YtghhakilkmbpdaaDoorWHeld
import Derived.Lib.SlBytesConst
namespace Gm
theorem awake_a : (K.init.run [60, 97, 32, 120, 61, 34, 49, 34, 32, 120]).map K.rest = some [45, 61, 34, 34, 47, 62] := by decide +kernel
theorem awake_b : (K.init.run []).map K.rest = some [60, 65, 47, 62] := by decide +kernel
theorem awake_c : K.init.run [60, 97, 47, 62, 120] = none := by decide +kernel
theorem awake_c4 : (K.init.run [60, 97, 47, 62]).isSome = true := by decide +kernel
end Gm
namespace Go.Proofs.YtghhakilkmbpdaaDoor
open Go Go.RowKit

theorem bad_at {n : Nat} {s : Gm.K} {x : UInt8} (ha : AtK [60, 97, 47, 62, 120] n s) (hx : ([60, 97, 47, 62, 120] : Gm.Bs)[n]? = some x) (hs : s.step x = none) : n = 4 := by
  have hl := (List.getElem?_eq_some_iff.1 hx).1
  by_cases h : n = 4
  · exact h
  · exfalso
    have hn : n < 4 := by simp at hl; omega
    obtain ⟨_, hr⟩ := ha
    have e : ([60, 97, 47, 62] : Gm.Bs) = ([60, 97, 47, 62, 120] : Gm.Bs).take n ++ (x :: (([60, 97, 47, 62] : Gm.Bs).drop (n + 1))) := by
      have hn' : n = 0 ∨ n = 1 ∨ n = 2 ∨ n = 3 := by omega
      rcases hn' with rfl | rfl | rfl | rfl <;> (simp at hx; subst hx; rfl)
    have h4 := Gm.awake_c4
    rw [e, Gm.run_append, hr] at h4
    simp [Gm.K.run, hs] at h4

/-- '[]byte("..")' of a constant -/
theorem const_in (w : World) (bs : Gm.Bs) (fr : Nat × Nat) (h : bs.length ≤ 4194304) : In (w.alloc (.cells (bs.map vb).toArray 5 fr)) (some ⟨w.heap.size, 0, none⟩) bs.length bs := by
  refine ⟨.inr ⟨w.heap.size, 0, rfl, fun j hj => ?_⟩, fun a ha => by cases ha; simp, Nat.le_refl _, h, by omega⟩
  rw [World.cell?_alloc_mark w _ 5 fr (0 + j)]
  simp [vb, List.getD, hj]
theorem nil_in (w : World) : In w none 0 [] := ⟨.inl rfl, fun a ha => (by cases ha), Nat.le_refl _, by simp, by omega⟩

set_option maxRecDepth 100000 in
set_option maxHeartbeats 2000000 in
theorem awake_any {B : Nat} {w : World} (h : Env B w) : Calls Tryd.prog 4 #[] w fun e w' => e = .returned (.bool true) ∧ Fr S0 w w' := by
  have kc := fun (w : World) (C : Array Value) (n c : Nat) => Lib.run_convert_bytes_const (P := Tryd.prog) w 22 5 C n c Tryd.underlying22 Tryd.underlying5
  have i1 : In (w.alloc (.cells #[.int .u8 60, .int .u8 97, .int .u8 32, .int .u8 120, .int .u8 61, .int .u8 34, .int .u8 49, .int .u8 34, .int .u8 32, .int .u8 120] 5 (10, 11))) (some ⟨w.heap.size, 0, none⟩) 10 [60, 97, 32, 120, 61, 34, 49, 34, 32, 120] := const_in w [60, 97, 32, 120, 61, 34, 49, 34, 32, 120] (10, 11) (by simp)
  have I1 := Lib.hid i1
  have HE := Lib.hid h
  clear h i1
  go_enter Tryd.func4, Tryd.ntmps4
  go_wp2_with fail
  refine (Rest_n (HE.out.fr0 (Fr.alloc S0 w _)) I1.out rfl).mono ?_
  rintro e w1 (⟨s1, g1, cap1, hr1, rfl, hl1, hc1, hg1, hgs1, hb1, hf1⟩ | ⟨_, _, _, _, hn, _⟩)
  · have HF1 := Lib.hid ((Fr.alloc S0 w _).trans hf1)
    have e1 : s1.rest = [45, 61, 34, 34, 47, 62] := by have := Gm.awake_a; rw [hr1] at this; simpa using this
    rw [e1] at hb1 hl1 ⊢
    have HB1 := Lib.hid hb1
    simp only [List.length_cons, List.length_nil, Nat.zero_add, Nat.reduceAdd] at hl1 ⊢
    clear hf1 hr1 e1 hb1
    go_wp2_with fail
    refine (Rest_n (HE.out.fr0 HF1.out) (nil_in _) rfl).mono ?_
    rintro e w2 (⟨s2, g2, cap2, hr2, rfl, hl2, hc2, hg2, hgs2, hb2, hf2⟩ | ⟨_, _, _, _, hn, _⟩)
    · have HF2 := Lib.hid (HF1.out.trans hf2)
      have e2 : s2.rest = [60, 65, 47, 62] := by have := Gm.awake_b; rw [hr2] at this; simpa using this
      rw [e2] at hb2 hl2 ⊢
      have HB2 := Lib.hid hb2
      have HB12 := Lib.hid (HB1.out.fr hf2 (fun _ _ h => h))
      simp only [List.length_cons, List.length_nil, Nat.zero_add, Nat.reduceAdd] at hl2 ⊢
      clear hf2 hr2 e2 hb2
      have i3 : In (w2.alloc (.cells #[.int .u8 60, .int .u8 97, .int .u8 47, .int .u8 62, .int .u8 120] 5 (5, 6))) (some ⟨w2.heap.size, 0, none⟩) 5 [60, 97, 47, 62, 120] := const_in w2 [60, 97, 47, 62, 120] (5, 6) (by simp)
      have I3 := Lib.hid i3
      clear i3
      go_wp2_with fail
      refine (Rest_n (HE.out.fr0 (HF2.out.trans (Fr.alloc S0 _ _))) I3.out rfl).mono ?_
      rintro e w3 (⟨s3, g3, cap3, hr3, _⟩ | ⟨n3, s3, x3, a3, hn3, ha3, hx3, hs3, rfl, hga, hcell, hf3⟩)
      · exfalso
        rw [Gm.awake_c] at hr3
        cases hr3
      · have HF3 := Lib.hid ((HF2.out.trans (Fr.alloc S0 _ _)).trans hf3)
        have HB13 := Lib.hid ((HB12.out.fr (Fr.alloc S0 _ _) (fun _ _ h => h)).fr hf3 (fun _ _ h => h))
        have HB23 := Lib.hid ((HB2.out.fr (Fr.alloc S0 _ _) (fun _ _ h => h)).fr hf3 (fun _ _ h => h))
        have h4 : w3.cell? ⟨a3, 4, none⟩ = some (.int .i64 200) := by unfold World.cell?; rw [hcell]; rfl
        have H4 := Lib.hid h4
        clear hn3 ha3 hx3 hs3 hcell hf3 h4
        have hcA : (convert 22 9 (.slice (some ⟨g1, 0, none⟩) 6 cap1)).run Tryd.prog w3 = .ok (.string ⟨#[45, 61, 34, 34, 47, 62]⟩) w3 := conv_str HB13.out cap1
        have hcB : (convert 22 9 (.slice (some ⟨g2, 0, none⟩) 4 cap2)).run Tryd.prog w3 = .ok (.string ⟨#[60, 65, 47, 62]⟩) w3 := conv_str HB23.out cap2
        have i4 : In (w3.alloc (.cells #[.int .u8 60, .int .u8 97, .int .u8 47, .int .u8 62, .int .u8 120] 5 (5, 6))) (some ⟨w3.heap.size, 0, none⟩) 5 [60, 97, 47, 62, 120] := const_in w3 [60, 97, 47, 62, 120] (5, 6) (by simp)
        have I4 := Lib.hid i4
        clear i4
        go_wp2_with fail
        refine (is_doc a3 _ H4.out).mono ?_
        rintro e w' ⟨rfl, rfl⟩
        go_wp2_with fail
        refine (Good_n (HE.out.fr0 (HF3.out.trans (Fr.alloc S0 _ _))) I4.out Gm.awake_c rfl).mono ?_
        rintro e w' ⟨n4, s4, x4, rfl, ha4, hx4, hs4, hf4⟩
        obtain rfl := bad_at ha4 hx4 hs4
        clear ha4 hx4 hs4
        go_wp2_with fail
        go_ret
        exact ⟨rfl, (HF3.out.trans (Fr.alloc S0 _ _)).trans hf4⟩
    · exfalso
      rw [show Gm.K.init.run [] = some Gm.K.init from rfl] at hn
      cases hn
  · exfalso
    have := Gm.awake_a
    rw [hn] at this
    cases this
end Go.Proofs.YtghhakilkmbpdaaDoor
