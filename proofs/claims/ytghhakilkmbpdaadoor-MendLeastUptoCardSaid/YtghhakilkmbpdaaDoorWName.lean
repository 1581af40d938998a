/- Walks: reader.nameRest. -/
import Derived.Test.YtghhakilkmbpdaaDoorWChar
import Derived.Test.YtghhakilkmbpdaaDoorWDummy
namespace Go.Proofs.YtghhakilkmbpdaaDoor
open Go Go.RowKit

/-- whole characters of a name's rest, from one place to another -/
inductive NameRun (b : Gm.Bs) : Nat → Nat → Prop
  | nil (n : Nat) : NameRun b n n
  | step {n m : Nat} {q : Gm.Bs} : Gm.charN 3 [] (b.drop n) = .ok q → NameRun b (n + q.length) m → NameRun b n m
theorem NameRun.snoc {b : Gm.Bs} {n m : Nat} {q : Gm.Bs} (h : NameRun b n m) (hq : Gm.charN 3 [] (b.drop m) = .ok q) : NameRun b n (m + q.length) := by
  induction h with
  | nil n => exact .step hq (.nil _)
  | step h1 _ ih => exact .step h1 (ih hq)

def NameRestPost (B : Nat) (w : World) (p : Nat) (r : R) (rest : Gm.Bs) (e : Ending) (w' : World) : Prop :=
  ∃ n, r.at_ ≤ n ∧ n ≤ r.b.length ∧ NameRun r.b r.at_ n ∧
    ((e = .returned (.tuple #[]) ∧ (n = r.b.length ∨ Gm.begins 3 [r.b.getD n 0] = false) ∧ Rd B w' p { r with at_ := n } ∧ Fr (only p) w w') ∨
     (n < r.b.length ∧ Gm.begins 3 [r.b.getD n 0] = true ∧ ∃ k, Gm.charN 3 [] (r.b.drop n) = .bad k ∧ e = stopE ((n + k : Nat) : Int) [] ∧ Fr (only p) w w') ∨
     (n < r.b.length ∧ ∃ q, Gm.charN 3 [] (r.b.drop n) = .short q ∧ e = stopE (-1) (Gm.compl 3 q ++ rest ++ Gm.closing r.o ++ (if !r.root then [60, 65, 47, 62] else [])) ∧ Fr (only p) w w'))

theorem one_bytes {W : World} {b : Gm.Bs} {bk off n : Nat} (hn : n < b.length) (h : W.cell? ⟨bk, off + n, none⟩ = some (.int .u8 (b.getD n 0).toNat)) : BAt W (some ⟨bk, off + n, none⟩) [b.getD n 0] := by
  refine .inr ⟨bk, off + n, rfl, fun j hj => ?_⟩
  obtain rfl : j = 0 := by simpa using hj
  exact h

set_option maxRecDepth 100000 in
set_option maxHeartbeats 400000 in
theorem nameRest_any {B : Nat} {w : World} {p : Nat} {r : R} (h : Rd B w p r) (rest : Gm.Bs) (hrest : rest.length ≤ 1048576) :
    Calls Tryd.prog 34 #[.pointer (some ⟨p, 0, none⟩), .string ⟨rest.toArray⟩] w (NameRestPost B w p r rest) := by
  have hsm := h.small
  have hlc := h.lcap
  have hbc := h.bcap
  have hle := h.at_le
  have HH := Lib.hid h
  clear h
  go_enter Tryd.func34, Tryd.ntmps34
  go_wp2_with fail
  go_loopg [] (r.b.length - r.at_) (fun k wr => ∃ n, r.at_ ≤ n ∧ n ≤ r.b.length ∧ k = r.b.length - n ∧ NameRun r.b r.at_ n ∧ Rd B wr p { r with at_ := n } ∧ Fr (only p) w wr)
  case atStart => exact ⟨r.at_, Nat.le_refl _, hle, rfl, .nil _, HH.out, Fr.refl _ _⟩
  case round =>
    obtain ⟨n, h1, h2, hk, hrun, hr, hf⟩ := hrel
    have HK := Lib.hid hk
    have HRun := Lib.hid hrun
    have HR := Lib.hid hr
    have HF := Lib.hid hf
    clear hk hrun hr hf
    by_cases hend : n = r.b.length
    · have c0 := HR.out.c0
      have c1 := HR.out.c1
      have HE := Lib.hid hend
      clear hend
      go_wp2_with fail
      go_quiet ((go_at_call 17; exact Calls.quiet_of (ended_yes (HR.out.fr0 (Fr.drewN _ _ _)) HE.out)))
      go_wp2
      go_end0
      exact ⟨n, h1, h2, HRun.out, .inl ⟨rfl, .inl HE.out, HR.out.fr0 (Fr.drewN _ _ _), HF.out.trans (Fr.drewN _ _ _)⟩⟩
    · have hlt : n < r.b.length := by omega
      obtain ⟨bk, off, hao, hc⟩ := HR.out.byte hlt
      simp only at hao hc
      have c0 := HR.out.c0
      have c1 := HR.out.c1
      simp only at c0 c1
      rw [hao] at c0
      have HA := Lib.hid hao
      have HC := Lib.hid hc
      have HE := Lib.hid hend
      clear hao hc hend
      have u0 : ∀ i : Ext wr, (up i).cell? ⟨p, 0, none⟩ = some (.slice (some ⟨bk, off, none⟩) r.b.length r.cap) := fun i => ((up_fr i).cell (lt_of_cell c0) (fun h => h)).trans c0
      have u1 : ∀ i : Ext wr, (up i).cell? ⟨p, 1, none⟩ = some (.int .i64 n) := fun i => ((up_fr i).cell (lt_of_cell c1) (fun h => h)).trans c1
      have hbg : ∀ i : Ext wr, Calls Tryd.prog 39 #[.int .i64 3, .slice (some ⟨bk, off + n, none⟩) 1 (r.cap - n)] (up i) fun e w' => e = .returned (.bool (Gm.begins 3 [r.b.getD n 0])) ∧ Fr S0 (up i) w' := by
        intro i
        refine Begins_n 3 (by omega) [r.b.getD n 0] 1 rfl _ _ _ (HR.out.env.fr0 (up_fr i)) (one_bytes hlt ?_) (by omega)
        exact ((up_fr i).cell (lt_of_cell HC.out) (fun h => h)).trans HC.out
      cases hbv : Gm.begins 3 [r.b.getD n 0] with
      | false =>
        rw [hbv] at hbg
        have HB := Lib.hid hbg
        have HBV := Lib.hid hbv
        clear hbg hbv
        go_wp2_with fail
        refine wp_region_up (by kernel_rfl) (by kernel_rfl) ?_
        repeat (first | go_big_quiet_step (first | (go_at_call 17; exact calls_up_drew (ended_no (HR.out.fr0 (up_fr _)) HE.out)) | (go_at_call 39; exact calls_up (HB.out _))) | quiet_step (first | (go_at_call 17; exact calls_up_drew (ended_no (HR.out.fr0 (up_fr _)) HE.out)) | (go_at_call 39; exact calls_up (HB.out _))))
        refine wpQuiet_nil ?_
        rintro _ ⟨⟨w1, HF1⟩, rfl⟩
        try dsimp only [up]
        go_wp2
        go_end0
        exact ⟨n, h1, h2, HRun.out, .inl ⟨rfl, .inr HBV.out, HR.out.fr0 HF1, HF.out.trans HF1.of0⟩⟩
      | true =>
        rw [hbv] at hbg
        have HB := Lib.hid hbg
        have HBV := Lib.hid hbv
        clear hbg hbv
        go_wp2_with fail
        refine wp_region_up (by kernel_rfl) (by kernel_rfl) ?_
        repeat (first | go_big_quiet_step (first | (go_at_call 17; exact calls_up_drew (ended_no (HR.out.fr0 (up_fr _)) HE.out)) | (go_at_call 39; exact calls_up (HB.out _))) | quiet_step (first | (go_at_call 17; exact calls_up_drew (ended_no (HR.out.fr0 (up_fr _)) HE.out)) | (go_at_call 39; exact calls_up (HB.out _))))
        refine wpQuiet_nil ?_
        rintro _ ⟨⟨w1, HF1⟩, rfl⟩
        try dsimp only [up]
        go_wp2_with fail
        refine (char_any (HR.out.fr0 HF1) 3 (by omega) rest hrest hlt).mono ?_
        rintro e w2 hpost
        unfold CharPost at hpost
        simp only at hpost
        cases hch : Gm.charN 3 [] (r.b.drop n) with
        | ok q =>
          rw [hch] at hpost
          obtain ⟨rfl, hR2, hF2⟩ := hpost
          have hq : 0 < q.length := by have := ((Gm.charN_spec 3 (r.b.drop n) [] (.inl rfl)).1 q hch).2.2.1; simpa using this
          have hq2 := hR2.at_le
          simp only at hq2
          have HCH := Lib.hid hch
          have HR2 := Lib.hid hR2
          have HF2 := Lib.hid hF2
          clear hch hR2 hF2
          go_wp2
          go_roundg (r.b.length - (n + q.length))
          case measure => rw [HK.out]; omega
          case rel => exact ⟨n + q.length, by omega, hq2, rfl, HRun.out.snoc HCH.out, HR2.out, HF.out.trans (HF1.of0.trans HF2.out)⟩
        | bad k =>
          rw [hch] at hpost
          obtain ⟨rfl, hF2⟩ := hpost
          unfold stopE
          exact ⟨rfl, n, h1, h2, HRun.out, .inr (.inl ⟨hlt, HBV.out, k, hch, rfl, HF.out.trans (HF1.trans hF2).of0⟩)⟩
        | short q =>
          rw [hch] at hpost
          obtain ⟨rfl, hF2⟩ := hpost
          unfold stopE
          exact ⟨rfl, n, h1, h2, HRun.out, .inr (.inr ⟨hlt, q, hch, rfl, HF.out.trans (HF1.trans hF2).of0⟩)⟩
end Go.Proofs.YtghhakilkmbpdaaDoor
