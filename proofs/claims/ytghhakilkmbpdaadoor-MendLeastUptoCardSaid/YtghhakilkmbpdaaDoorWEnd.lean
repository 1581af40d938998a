/- Walks: reader.end, reader.must, reader.blank. -/
import Derived.Test.YtghhakilkmbpdaaDoorWRd
namespace Go.Proofs.YtghhakilkmbpdaaDoor
open Go Go.RowKit

/-- an owned row of strings, its cells -/
theorem own_strs {w : World} {base : Nat} {v : Value} {o : List Gm.Bs} (h : w.ownsRow base 9 1 v o.length (strsV o)) :
    (v = .slice none 0 0 ∧ o = []) ∨ ∃ g cap, base ≤ g ∧ v = .slice (some ⟨g, 0, none⟩) o.length cap ∧ o.length ≤ cap ∧ cap ≤ maxLen ∧ g < w.heap.size ∧
      ∀ k, k < o.length → w.cell? ⟨g, k, none⟩ = some (.string ⟨(o.getD (o.length - 1 - k) []).toArray⟩) := by
  obtain ⟨h1, h2⟩ := h
  rcases h2 with ⟨h2, h3⟩ | ⟨g, cap, cur, hv, hg, hh, hn, hm, hs, ht⟩
  · exact .inl ⟨h2, List.length_eq_zero_iff.1 h3⟩
  · refine .inr ⟨g, cap, hg, hv, hn, hm, (Array.getElem?_eq_some_iff.1 hh).1, fun k hk => ?_⟩
    unfold World.cell?
    rw [hh]
    simp only [Option.isSome_none, Bool.false_eq_true, if_false]
    have e : cur[k]? = (cur.toList.take (o.length * 1))[k]? := by
      rw [List.getElem?_take_of_lt (by omega)]
      simp
    rw [e, ht]
    simp only [strsV, List.getElem?_map, List.getElem?_reverse hk]
    simp [List.getD, show o.length - 1 - k < o.length by omega]

theorem closing_take (o : List Gm.Bs) (j : Nat) (hj : j < o.length) : Gm.closing (o.take (j + 1)) = Gm.closing (o.take j) ++ (60 :: 47 :: (o.getD j [] ++ [62])) := by
  induction o generalizing j with
  | nil => simp at hj
  | cons n o ih =>
    cases j with
    | zero => simp [Gm.closing]
    | succ j =>
      have := ih j (by simpa using hj)
      simp only [List.take_succ_cons, Gm.closing, this, List.getD_cons_succ]
      simp
theorem closing_take_le (o : List Gm.Bs) (j : Nat) : (Gm.closing (o.take j)).length ≤ (Gm.closing o).length := by
  induction o generalizing j with
  | nil => simp
  | cons n o ih =>
    cases j with
    | zero => simp [Gm.closing]
    | succ j =>
      have := ih j
      simp only [List.take_succ_cons, Gm.closing, List.length_cons, List.length_append]
      omega

set_option maxRecDepth 100000 in
set_option maxHeartbeats 1600000 in
theorem end_any {B : Nat} {w : World} {p : Nat} {r : R} (h : Rd B w p r) (rest : Gm.Bs) (hrest : rest.length ≤ 1099511627776) :
    Calls Tryd.prog 18 #[.pointer (some ⟨p, 0, none⟩), .string ⟨rest.toArray⟩] w fun e w' =>
      e = stopE (-1) (rest ++ Gm.closing r.o ++ (if !r.root then [60, 65, 47, 62] else [])) ∧ Fr S0 w w' := by
  have c2 := h.c2
  have c3 := h.c3
  have hfr : ∀ j, w.frozen? ⟨p, j, none⟩ = false := h.fz
  have hcl : (Gm.closing r.o).length ≤ 16777216 := by have := h.olen; have := h.at_le; have := h.small; omega
  have hol : r.o.length ≤ (Gm.closing r.o).length := by
    generalize r.o = o
    induction o with
    | nil => simp
    | cons n o ih => simp [Gm.closing]; omega
  rcases own_strs h.own with ⟨hv, ho⟩ | ⟨g, cap, hg, hv, hcap, hm, hgs, hc⟩
  · rw [hv] at c2
    rw [ho]
    clear hfr hcl hol hv ho h
    generalize r.root = root at *
    have hcat := cat_list
    have hsz := size_list
    go_enter Tryd.func18, Tryd.ntmps18
    go_wp2
    go_loop [1, 4] (fun s i => i = .int .i64 (-1) ∧ s = .string ⟨rest.toArray⟩) (fun _ i => 0)
    case atStart => exact ⟨rfl, rfl⟩
    case round =>
      obtain ⟨rfl, rfl⟩ := hrel
      cases root with
      | true =>
        go_wp2
        exact ⟨rfl, by simp [stopE, Gm.closing], Fr.refl _ _⟩
      | false =>
        go_wp2
        exact ⟨rfl, by simp [stopE, Gm.closing], Fr.refl _ _⟩
  · rw [hv] at c2
    have HC := Lib.hid hc
    clear hfr hc hv h
    generalize r.o = o at *
    generalize r.root = root at *
    have hcat := cat_list
    have hsz := size_list
    go_enter Tryd.func18, Tryd.ntmps18
    go_wp2
    go_loop [1, 4] (fun s i => ∃ k : Nat, k ≤ o.length ∧ i = .int .i64 ((k : Int) - 1) ∧ s = .string ⟨(rest ++ Gm.closing (o.take (o.length - k))).toArray⟩) (fun _ i => (intOf i + 1).toNat)
    case atStart => exact ⟨o.length, Nat.le_refl _, rfl, by simp [Gm.closing]⟩
    case round =>
      obtain ⟨k, hk, rfl, rfl⟩ := hrel
      have hb := closing_take_le o (o.length - k)
      by_cases hpos : 1 ≤ k
      · have hck := HC.out (k - 1) (by omega)
        have hct := closing_take o (o.length - k) (by omega)
        have e1 : o.length - 1 - (k - 1) = o.length - k := by omega
        rw [e1] at hck
        have HCT := Lib.hid hct
        clear hct e1
        generalize o.getD (o.length - k) [] = nm at hck HCT
        have hnm : nm.length ≤ 16777216 := by
          have := congrArg List.length HCT.out
          have := closing_take_le o (o.length - k + 1)
          simp at *; omega
        generalize Gm.closing (o.take (o.length - k)) = cl at *
        go_wp2
        refine ⟨⟨k - 1, by omega, congrArg (Value.int .i64) (by omega), ?_⟩, by simp [intOf]; omega⟩
        have e2 : o.length - (k - 1) = o.length - k + 1 := by omega
        rw [e2, HCT.out]
        try simp
      · obtain rfl : k = 0 := by omega
        simp only [Nat.sub_zero, List.take_length] at hb ⊢
        cases root with
        | true =>
          go_wp2
          exact ⟨rfl, by simp [stopE], Fr.refl _ _⟩
        | false =>
          go_wp2
          exact ⟨rfl, by simp [stopE], Fr.refl _ _⟩
end Go.Proofs.YtghhakilkmbpdaaDoor
