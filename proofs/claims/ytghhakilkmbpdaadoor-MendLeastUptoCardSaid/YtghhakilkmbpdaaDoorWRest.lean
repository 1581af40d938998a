/- Walks: Rest, Good, Document. -/
import Derived.Test.YtghhakilkmbpdaaDoorWRead
import Derived.Test.YtghhakilkmbpdaaDoorWAt
import Derived.Test.YtghhakilkmbpdaaDoorWErr
import Derived.Test.YtghhakilkmbpdaaDoorPLen
namespace Go.Proofs.YtghhakilkmbpdaaDoor
open Go Go.RowKit

/-- a slice of bytes that was handed in -/
structure In (w : World) (ao : Option Addr) (cap : Nat) (b : Gm.Bs) : Prop where
  at_ : BAt w ao b
  low : ∀ a, ao = some a → a.block < w.heap.size
  le : b.length ≤ cap
  small : b.length ≤ 4194304
  cap : cap ≤ 9223372036854775807

theorem In.fr {w w' : World} {ao : Option Addr} {cap : Nat} {b : Gm.Bs} (h : In w ao cap b) (hf : Fr S0 w w') : In w' ao cap b :=
  ⟨h.at_.fr hf (fun _ _ h => h), fun a ha => Nat.lt_of_lt_of_le (h.low a ha) hf.size, h.le, h.small, h.cap⟩

theorem Env.up {B : Nat} {w : World} (h : Env B w) : Env w.heap.size w := by
  have hl := h.le
  refine ⟨Nat.le_refl _, ⟨by have := h.low.1; omega, by have := h.low.2.1; omega, by have := h.low.2.2; omega⟩, h.u8, fun c hc => ?_⟩
  obtain ⟨bk, off, cap, h1, h2, h3⟩ := h.rng c hc
  exact ⟨bk, off, cap, by omega, h2, h3⟩

def RestPost (w : World) (b : Gm.Bs) (e : Ending) (w' : World) : Prop :=
  (∃ s g cap, Gm.K.init.run b = some s ∧ e = .returned (.tuple #[.slice (some ⟨g, 0, none⟩) s.rest.length cap, .nilIface]) ∧ s.rest.length ≤ cap ∧ cap ≤ 9223372036854775807 ∧ w.heap.size ≤ g ∧ g < w'.heap.size ∧ BAt w' (some ⟨g, 0, none⟩) s.rest ∧ Fr S0 w w') ∨
  (∃ (n : Nat) (s : Gm.K) (x : UInt8) (a : Nat), Gm.K.init.run b = none ∧ AtK b n s ∧ b[n]? = some x ∧ s.step x = none ∧ e = .returned (.tuple #[.slice none 0 0, .iface 42 (.pointer (some ⟨a, 0, none⟩))]) ∧ w.heap.size ≤ a ∧
    w'.heap[a]? = some (.cells #[.int .i64 n, .int .i64 (placeOf b n).1, .int .i64 (placeOf b n).2.1, .int .i64 (placeOf b n).2.2, .int .i64 200] 44 (0, 0)) ∧ Fr S0 w w')

set_option maxRecDepth 100000 in
set_option maxHeartbeats 1000000 in
theorem Rest_any {B : Nat} {w : World} (h : Env B w) {ao : Option Addr} {cap : Nat} {b : Gm.Bs} (hi : In w ao cap b) :
    Calls Tryd.prog 5 #[.slice ao b.length cap] w (RestPost w b) := by
  have HE := Lib.hid h.up
  have HI := Lib.hid hi
  clear h hi
  go_enter Tryd.func5, Tryd.ntmps5
  go_wp2_with fail
  refine (read_any b ao cap w HE.out HI.out.at_ HI.out.low HI.out.le HI.out.small HI.out.cap).mono ?_
  rintro e w1 ⟨wr, rest, rfl, hr, hf1⟩
  rcases hr with ⟨hnone, rfl, n, s, x, rfl, ha, hx, hs⟩ | ⟨rfl, s, hrun, rfl⟩
  · have HF1 := Lib.hid hf1
    have HN := Lib.hid (And.intro hnone (And.intro ha (And.intro hx hs)))
    clear hf1 hnone ha hx hs
    have hnl : n ≤ b.length := HN.out.2.1.1
    go_wp2_with fail
    refine (At_any b ao cap n _ ((HI.out.fr HF1.out).at_.fr (Fr.alloc S0 _ _) (fun _ _ h => h)) hnl HI.out.le HI.out.small HI.out.cap).mono ?_
    rintro e w2 ⟨rfl, hf2⟩
    have HF2 := Lib.hid ((HF1.out.trans (Fr.alloc _ _ _)).trans hf2)
    obtain ⟨pl, hpl⟩ : ∃ pl, placeOf b n = pl := ⟨_, rfl⟩
    rw [hpl]
    have HPL := Lib.hid hpl
    clear hf2 hpl
    go_wp2_with fail
    go_region
    go_wp2_with fail
    go_ret2
    refine .inr ⟨n, s, x, w2.heap.size + 1, HN.out.1, HN.out.2.1, HN.out.2.2.1, HN.out.2.2.2, rfl, by have := HF2.out.size; omega, ?_, (HF2.out.trans ((Fr.alloc _ _ _).trans (Fr.alloc _ _ _))).trans (Fr.drew _ _)⟩
    rw [HPL.out]
    have := World.alloc_heap_new (w2.alloc (.cells #[.int .i64 n, .int .i64 pl.1, .int .i64 pl.2.1, .int .i64 pl.2.2] 39)) (.cells #[.int .i64 n, .int .i64 pl.1, .int .i64 pl.2.1, .int .i64 pl.2.2, .int .i64 200] 44)
    rw [World.size_alloc] at this
    exact this
  · have HF1 := Lib.hid hf1
    have HN := Lib.hid hrun
    have hcv := conv_bytes (w1.alloc (.cells #[.int .i64 (-1), .string ⟨s.rest.toArray⟩] 36)) s.rest
    have HL := Lib.hid (Gm.rest_len hrun)
    have HSM := Lib.hid HI.out.small
    clear hf1 hrun
    generalize hrest : s.rest = rest at *
    have HREST := Lib.hid hrest
    clear hrest
    go_wp2_with fail
    go_ret2
    have hg := HL.out
    have hsm := HSM.out
    have hfb := bworld_fr S0 (w1.alloc (.cells #[.int .i64 (-1), .string ⟨rest.toArray⟩] 36)) rest
    refine .inl ⟨s, w1.heap.size + 1, gcap (w1.alloc (.cells #[.int .i64 (-1), .string ⟨rest.toArray⟩] 36)) rest, HN.out, ?_, ?_, ?_, ?_, ?_, ?_, ?_⟩
    · rw [HREST.out]
      try simp
    · rw [HREST.out]; exact gcap_ge _ _
    · exact gcap_le _ _ (by omega)
    · have := HF1.out.size; omega
    · rw [bworld_at]; simp
    · rw [HREST.out]; exact bworld_bytes_at _ _ _ (by simp)
    · exact (HF1.out.trans (Fr.alloc _ _ _)).trans hfb

/-- are the bytes a document? -/
def isDoc (b : Gm.Bs) : Bool := match Gm.K.init.run b with
  | some s => s.rest.isEmpty
  | none => false
theorem isDoc_iff (b : Gm.Bs) : isDoc b = true ↔ Gm.IsDoc b := by
  unfold isDoc Gm.IsDoc
  cases Gm.K.init.run b with
  | none => simp
  | some s => simp

set_option maxRecDepth 100000 in
set_option maxHeartbeats 1000000 in
theorem Document_any {B : Nat} {w : World} (h : Env B w) {ao : Option Addr} {cap : Nat} {b : Gm.Bs} (hi : In w ao cap b) :
    Calls Tryd.prog 6 #[.slice ao b.length cap] w fun e w' => e = .returned (.bool (isDoc b)) ∧ Fr S0 w w' := by
  have HE := Lib.hid h.up
  have HI := Lib.hid hi
  clear h hi
  go_enter Tryd.func6, Tryd.ntmps6
  go_wp2_with fail
  refine (read_any b ao cap w HE.out HI.out.at_ HI.out.low HI.out.le HI.out.small HI.out.cap).mono ?_
  rintro e w1 ⟨wr, rest, rfl, hr, hf1⟩
  rcases hr with ⟨hnone, rfl, n, s, x, rfl, ha, hx, hs⟩ | ⟨rfl, s, hrun, rfl⟩
  · have hd : isDoc b = false := by unfold isDoc; rw [hnone]
    have HD := Lib.hid hd
    have gn : decide ((n : Int) < 0) = false := by rw [decide_eq_false_iff_not]; omega
    have HF1 := Lib.hid hf1
    clear hf1 hnone ha hx hs hd
    go_wp2_with fail
    go_ret
    exact ⟨by rw [HD.out]; rfl, HF1.out.trans (Fr.alloc _ _ _)⟩
  · have hd : isDoc b = s.rest.isEmpty := by unfold isDoc; rw [hrun]
    have HD := Lib.hid hd
    have HF1 := Lib.hid hf1
    clear hf1 hrun hd
    generalize s.rest = rest at *
    cases rest with
    | nil =>
      go_wp2_with fail
      go_ret
      exact ⟨by rw [HD.out]; rfl, HF1.out.trans (Fr.alloc _ _ _)⟩
    | cons a t =>
      go_wp2_with fail
      go_ret
      exact ⟨by rw [HD.out]; rfl, HF1.out.trans (Fr.alloc _ _ _)⟩

set_option maxRecDepth 100000 in
set_option maxHeartbeats 1000000 in
/-- the length of the longest beginning -/
theorem Good_bad {B : Nat} {w : World} (h : Env B w) {ao : Option Addr} {cap : Nat} {b : Gm.Bs} (hi : In w ao cap b) (hn : Gm.K.init.run b = none) :
    Calls Tryd.prog 10 #[.slice ao b.length cap] w fun e w' => ∃ (n : Nat) (s : Gm.K) (x : UInt8), e = .returned (.int .i64 n) ∧ AtK b n s ∧ b[n]? = some x ∧ s.step x = none ∧ Fr S0 w w' := by
  have HE := Lib.hid h.up
  have HI := Lib.hid hi
  have HN := Lib.hid hn
  clear h hi hn
  go_enter Tryd.func10, Tryd.ntmps10
  go_wp2_with fail
  refine (read_any b ao cap w HE.out HI.out.at_ HI.out.low HI.out.le HI.out.small HI.out.cap).mono ?_
  rintro e w1 ⟨wr, rest, rfl, hr, hf1⟩
  rcases hr with ⟨hnone, rfl, n, s, x, rfl, ha, hx, hs⟩ | ⟨rfl, s, hrun, rfl⟩
  · have HF1 := Lib.hid hf1
    have HA := Lib.hid (And.intro ha (And.intro hx hs))
    clear hf1 hnone ha hx hs
    go_wp2_with fail
    go_ret
    exact ⟨n, s, x, rfl, HA.out.1, HA.out.2.1, HA.out.2.2, HF1.out.trans (Fr.alloc _ _ _)⟩
  · rw [HN.out] at hrun
    cases hrun

theorem Rest_n {B : Nat} {w : World} (h : Env B w) {ao : Option Addr} {cap n : Nat} {b : Gm.Bs} (hi : In w ao cap b) (hn : b.length = n) : Calls Tryd.prog 5 #[.slice ao n cap] w (RestPost w b) := by
  subst hn; exact Rest_any h hi
theorem Document_n {B : Nat} {w : World} (h : Env B w) {ao : Option Addr} {cap n : Nat} {b : Gm.Bs} (hi : In w ao cap b) (hn : b.length = n) :
    Calls Tryd.prog 6 #[.slice ao n cap] w fun e w' => e = .returned (.bool (isDoc b)) ∧ Fr S0 w w' := by
  subst hn; exact Document_any h hi
theorem Good_n {B : Nat} {w : World} (h : Env B w) {ao : Option Addr} {cap m : Nat} {b : Gm.Bs} (hi : In w ao cap b) (hn : Gm.K.init.run b = none) (hm : b.length = m) :
    Calls Tryd.prog 10 #[.slice ao m cap] w fun e w' => ∃ (n : Nat) (s : Gm.K) (x : UInt8), e = .returned (.int .i64 n) ∧ AtK b n s ∧ b[n]? = some x ∧ s.step x = none ∧ Fr S0 w w' := by
  subst hm; exact Good_bad h hi hn
end Go.Proofs.YtghhakilkmbpdaaDoor
