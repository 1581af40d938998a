/- Walks: the statement's joined. -/
import Derived.Test.YtghhakilkmbpdaaDoorWRest
namespace Go.Proofs.YtghhakilkmbpdaaDoor
open Go Go.RowKit

def vb (x : UInt8) : Value := .int .u8 x.toNat

theorem u8Info : ∃ i, Tryd.prog.info? 5 = some i ∧ i.zero = some (.int .u8 0) ∧ i.size = 1 ∧ i.bytes = 1 := by
  have h : (Tryd.prog.info? 5).map (fun i => (i.zero, i.size, i.bytes)) = some (some (.int .u8 0), 1, 1) := by kernel_rfl
  obtain ⟨i, hi, h1, h2, h3⟩ := info_parts h
  exact ⟨i, hi, h1, h2, h3⟩

theorem append_nil (w : World) {base n : Nat} {v : Value} {xs : List Value} (h : w.ownsRow base 5 1 v n xs) (c : Nat) : (Builtin.append_ #[22, 22] 22 #[v, .slice none 0 c]).run Tryd.prog w = .ok v w := by
  obtain ⟨i, hi, hz, hs, hb⟩ := u8Info
  obtain ⟨_, h2⟩ := h
  rcases h2 with ⟨rfl, rfl⟩ | ⟨g, cap, cur, rfl, hg, hh, hn, hm, _⟩
  · simp [Builtin.append_, run_underlying Tryd.underlying22, sizeOf, typeInfo, hi, hs, Builtin.lenOf, Builtin.firstCells]
  · simp [Builtin.append_, run_underlying Tryd.underlying22, sizeOf, typeInfo, hi, hs, Builtin.lenOf, Builtin.firstCells, hn, storeCells]

theorem append_bytes (w : World) {base n : Nat} {v : Value} {l : Gm.Bs} (hown : w.ownsRow base 5 1 v n (l.map vb)) {ao : Option Addr} {b : Gm.Bs} (hin : BAt w ao b) (cap : Nat) (h63 : n + b.length ≤ 1000000000) (hbase : base ≤ w.heap.size) :
    ∃ v' w', (Builtin.append_ #[22, 22] 22 #[v, .slice ao b.length cap]).run Tryd.prog w = .ok v' w' ∧ w'.ownsRow base 5 1 v' (n + b.length) ((l ++ b).map vb) ∧ w.grownBy w' v.ownBlock ∧
      (v' = .slice none 0 0 ↔ v = .slice none 0 0 ∧ b.length = 0) := by
  cases ao with
  | none =>
    obtain rfl : b = [] := by
      rcases hin with h | ⟨bk, off, h, _⟩
      · exact h
      · cases h
    exact ⟨v, w, append_nil w hown cap, by simpa using hown, ⟨rfl, rfl, rfl, Nat.le_refl _, fun _ _ _ => rfl⟩, by simp⟩
  | some a =>
    obtain ⟨i, hi, hz, hs, hb⟩ := u8Info
    have hnews : ∀ j u, (b.map vb)[j]? = some u → w.cell? (a.add j) = some u := by
      intro j u hj
      rcases hin with h | ⟨bk, off, h, hc⟩
      · subst h; simp at hj
      · cases h
        have hjl : j < b.length := by
          have := (List.getElem?_eq_some_iff.1 hj).1
          simpa using this
        rw [Addr.add_lit, hc j hjl]
        simp [vb] at hj
        obtain ⟨x, hx, rfl⟩ := hj
        simp [List.getD, hx]
    obtain ⟨v', w', hr, ho, hg, hn⟩ := run_append_own (P := Tryd.prog) w base 22 22 5 i _ 1 1 Tryd.underlying22 hi hz hs hb rfl (by omega) v n _ hown a b.length cap (b.map vb) (by simp) hnews (by
      intro u hu
      simp [vb] at hu
      obtain ⟨x, _, rfl⟩ := hu
      rfl) (by unfold maxLen; omega) (by omega) hbase
    exact ⟨v', w', hr, by simpa using ho, hg, hn⟩

theorem own_in {w : World} {base n : Nat} {v : Value} {l : Gm.Bs} (h : w.ownsRow base 5 1 v n (l.map vb)) (hv : v ≠ .slice none 0 0) (hs : l.length ≤ 4194304) :
    ∃ g cap, v = .slice (some ⟨g, 0, none⟩) l.length cap ∧ base ≤ g ∧ In w (some ⟨g, 0, none⟩) cap l := by
  obtain ⟨h1, h2⟩ := h
  have hn : n = l.length := by simpa using h1.symm
  subst hn
  rcases h2 with ⟨h2, _⟩ | ⟨g, cap, cur, rfl, hg, hh, hnc, hm, hsz, ht⟩
  · exact absurd h2 hv
  · refine ⟨g, cap, rfl, hg, .inr ⟨g, 0, rfl, fun j hj => ?_⟩, fun a ha => ?_, hnc, hs, by unfold maxLen at hm; omega⟩
    · unfold World.cell?
      rw [hh]
      simp only [Option.isSome_none, Bool.false_eq_true, if_false, Nat.zero_add]
      have e : cur[j]? = (cur.toList.take (l.length * 1))[j]? := by
        rw [List.getElem?_take_of_lt (by omega)]
        simp
      rw [e, ht]
      simp [vb, List.getD, hj]
    · cases ha
      exact (Array.getElem?_eq_some_iff.1 hh).1

theorem Fr.of_grown {w w' : World} {row : Option Nat} (h : w.grownBy w' row) (S : Nat → Prop) (hr : ∀ k, row = some k → S k) : Fr S w w' :=
  ⟨h.os, h.tape, h.output, h.size, fun k hk hn => h.block k hk (fun e => hn (hr k e.symm))⟩

set_option maxRecDepth 100000 in
set_option maxHeartbeats 1000000 in
theorem joined_any {w : World} {ao bo : Option Addr} {ca cb : Nat} {a b : Gm.Bs} (ha : In w ao ca a) (hb : In w bo cb b) (hl : (a ++ b).length ≤ 4194304) :
    Calls Tryd.prog 7 #[.slice ao a.length ca, .slice bo b.length cb] w fun e w' => ∃ g cap, e = .returned (.slice (some ⟨g, 0, none⟩) (a.length + b.length) cap) ∧ w.heap.size ≤ g ∧ In w' (some ⟨g, 0, none⟩) cap (a ++ b) ∧ Fr S0 w w' := by
  have hlab : a.length + b.length ≤ 4194304 := by simpa using hl
  have hf0 : Fr S0 w (w.alloc (.cells #[] 5)) := Fr.alloc _ _ _
  have ho0 : (w.alloc (.cells #[] 5)).ownsRow w.heap.size 5 1 (.slice (some ⟨w.heap.size, 0, none⟩) 0 0) 0 (([] : Gm.Bs).map vb) := World.ownsRow_made w #[] 0 (Nat.le_refl _) (by unfold maxLen; omega) rfl
  obtain ⟨v1, w1, hr1, ho1, hg1, hn1⟩ := append_bytes _ ho0 (ha.at_.fr hf0 (fun _ _ h => h)) ca (by omega) (by simp)
  simp only [List.nil_append, Nat.zero_add] at ho1
  have hne1 : v1 ≠ .slice none 0 0 := fun e => by have := (hn1.1 e).1; cases this
  have hf1 : Fr S0 w w1 := Fr.of_below (hf0.below.grown hg1 (by simp) (fun k e => by cases e; exact Nat.le_refl _))
  have hb1 := hb.at_.fr hf1 (fun _ _ h => h)
  obtain ⟨v2, w2, hr2, ho2, hg2, hn2⟩ := append_bytes _ ho1 hb1 cb (by omega) (hf1.size)
  have hne2 : v2 ≠ .slice none 0 0 := fun e => hne1 (hn2.1 e).1
  have hf2 : Fr S0 w w2 := Fr.of_below (hf1.below.grown hg2 hf1.size (fun k e => (ho1.lt k e).1))
  obtain ⟨g1, c1, rfl, hge1, _⟩ := own_in ho1 hne1 (by omega)
  obtain ⟨g2, c2, rfl, hge2, hin2⟩ := own_in ho2 hne2 hl
  have HR1 := Lib.hid hr1
  have HR2 := Lib.hid hr2
  have HIN := Lib.hid hin2
  have HF2 := Lib.hid hf2
  have hll : (a ++ b).length = a.length + b.length := by simp
  have HLL := Lib.hid hll
  clear ha hb hl hf0 ho0 hr1 ho1 hg1 hn1 hne1 hf1 hb1 hr2 ho2 hg2 hn2 hne2 hf2 hin2 hll
  go_enter Tryd.func7, Tryd.ntmps7
  go_wp2_with (first | (at_builtin; refine wpList_append_eq rfl (.tmp 5) (.tmp 6) _ _ rfl rfl rfl HR1.out ?_) | (at_builtin; refine wpList_append_eq rfl (.tmp 7) (.tmp 8) _ _ rfl rfl rfl HR2.out ?_))
  go_ret
  exact ⟨g2, c2, rfl, hge2, HIN.out, HF2.out⟩

theorem joined_n {w : World} {ao bo : Option Addr} {ca cb n m : Nat} {a b : Gm.Bs} (ha : In w ao ca a) (hb : In w bo cb b) (hn : a.length = n) (hm : b.length = m) (hl : (a ++ b).length ≤ 4194304) :
    Calls Tryd.prog 7 #[.slice ao n ca, .slice bo m cb] w fun e w' => ∃ g cap, e = .returned (.slice (some ⟨g, 0, none⟩) (n + m) cap) ∧ w.heap.size ≤ g ∧ In w' (some ⟨g, 0, none⟩) cap (a ++ b) ∧ Fr S0 w w' := by
  subst hn; subst hm; exact joined_any ha hb hl
end Go.Proofs.YtghhakilkmbpdaaDoor
