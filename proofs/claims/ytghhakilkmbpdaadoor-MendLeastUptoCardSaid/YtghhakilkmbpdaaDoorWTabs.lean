/- What the listed tables give. -/
import Derived.Test.YtghhakilkmbpdaaDoorWBase
import Derived.Test.YtghhakilkmbpdaaDoorRows
import Derived.Lib.LaidIn
import Derived.Lib.LaidU8T
import Derived.PinnedBridge
namespace Go.Proofs.YtghhakilkmbpdaaDoor
open Go Go.RowKit Go.Shelf Go.Lib

theorem rng_data : (Rows.laid_gimlet_chars_ranges : DataW Unit) = .agg ((List.range 6).map fun c => .slice ((Gm.rng c).map fun s => .agg ([(s.1 : Int), (s.2 : Int)].map fun z => .lit (.int .i32 z))) []) := by kernel_rfl
theorem acc_data : (Rows.laid_unicode_utf8_acceptRanges : DataW Unit) = Lib.acceptData := by kernel_rfl

theorem spot_none {w : World} {a : Addr} {v : Value} (h : w.cell? a = some v) : a.spot = none := by
  unfold World.cell? at h
  cases hs : a.spot with
  | none => rfl
  | some s =>
    rw [hs] at h
    split at h <;> simp at h

theorem rng_pos : ∀ c, c < 6 → 0 < (Gm.rng c).length := by decide

theorem rng_of_reads {W : World} (h : VarReads Tryd.prog W "gimlet/chars.ranges" Rows.laid_gimlet_chars_ranges) (c : Nat) (hc : c < 6) :
    ∃ bk off cap, bk < W.heap.size ∧ W.cell? ⟨1, c, none⟩ = some (.slice (some ⟨bk, off, none⟩) (Gm.rng c).length cap) ∧ ∀ j, j < (Gm.rng c).length →
      W.cell? ⟨bk, off + j * 2, none⟩ = some (.int .i32 ((Gm.rng c).getD j (0, 0)).1) ∧ W.cell? ⟨bk, off + j * 2 + 1, none⟩ = some (.int .i32 ((Gm.rng c).getD j (0, 0)).2) := by
  have hn : Tryd.prog.globalNamed "gimlet/chars.ranges" = some 1 := by kernel_rfl
  have hy : (Tryd.prog.globals[1]?).map (·.type) = some 100 := by kernel_rfl
  have h1 : Tryd.prog.cellsOf 91 = 1 := by kernel_rfl
  have h2 : Tryd.prog.cellsOf 94 = 2 := by kernel_rfl
  have h3 : Tryd.prog.cellsOf 21 = 1 := by kernel_rfl
  obtain ⟨g, t, cs, fuel, p, hg, hty, hvar, hd⟩ := h
  obtain rfl := Option.some.inj (hn.symm.trans hg)
  obtain rfl := Option.some.inj (hy.symm.trans hty)
  rw [rng_data] at hd
  obtain ⟨fuel', d, q, hdi, he⟩ := array_elem Tryd.underlying100 hd c hc
  rw [h1] at he
  simp only [List.getElem?_map, List.getElem?_range hc, Option.map_some, Option.some.injEq] at hdi
  subst hdi
  rcases DataW.trod_slice Tryd.underlying91 he with ⟨_, hx⟩ | ⟨a, len, cap, elems, rest, n, _, hcs, hx, _, _, _, hel, hat, _⟩
  · simp at hx
  · simp only [Prod.mk.injEq, DataW.slice.injEq] at hx
    obtain ⟨⟨hx1, _⟩, _⟩ := hx
    have hlen : len = (Gm.rng c).length := by
      have := congrArg List.length hx1
      simp at this
      omega
    subst hlen
    rw [h2] at hat
    have hcell : ∀ j, j < (Gm.rng c).length → W.cell? (a.add (j * 2)) = some (.int .i32 ((Gm.rng c).getD j (0, 0)).1) ∧ W.cell? ((a.add (j * 2)).add 1) = some (.int .i32 ((Gm.rng c).getD j (0, 0)).2) := by
      intro j hj
      have hj2 := hat j hj
      have hej : ∃ q', elems[j]? = some (.agg ([((Gm.rng c)[j].1 : Int), ((Gm.rng c)[j].2 : Int)].map fun z => .lit (.int .i32 z)), q') := by
        have := congrArg (·[j]?) hx1
        simp only [List.getElem?_map, List.getElem?_eq_getElem hj, Option.map_some] at this
        cases he2 : elems[j]? with
        | none => rw [he2] at this; simp at this
        | some e =>
          rw [he2] at this
          simp only [Option.map_some, Option.some.injEq] at this
          exact ⟨e.2, by rw [this]⟩
      obtain ⟨q', hq'⟩ := hej
      rw [hq'] at hj2
      obtain ⟨l, hl, ht⟩ := Option.bind_eq_some_iff.1 hj2
      have hcl := ints_of_struct Tryd.underlying94 (fun i f hf => by
        match i, hf with
        | 0, hf => simp at hf; subst hf; exact ⟨Tryd.underlying21, rfl, h3⟩
        | 1, hf => simp at hf; subst hf; exact ⟨Tryd.underlying21, rfl, h3⟩
        | i + 2, hf => simp at hf) (by rw [h2]; rfl) ht
      unfold World.cells? at hl
      split at hl
      · obtain ⟨b0, e0, f0⟩ := mapM_at hl 0 0 (by simp)
        obtain ⟨b1, e1, f1⟩ := mapM_at hl 1 1 (by simp)
        rw [hcl] at e0 e1
        simp at e0 e1
        subst e0
        subst e1
        have hz : (a.add (j * 2)).add 0 = a.add (j * 2) := by cases a; simp [Addr.add]
        rw [hz] at f0
        have hgd : (Gm.rng c).getD j (0, 0) = (Gm.rng c)[j] := by simp [List.getD, hj]
        rw [hgd]
        exact ⟨f0, f1⟩
      · cases hl
    have h0 := (hcell 0 (rng_pos c hc)).1
    have hs := spot_none h0
    obtain ⟨bk, off, spot⟩ := a
    have hsp : spot = none := by simpa [Addr.add] using hs
    subst hsp
    refine ⟨bk, off, cap, ?_, ?_, fun j hj => ?_⟩
    · have := lt_of_cell h0
      simpa [Addr.add] using this
    · rw [World.var?_cell hg hvar c, ← Array.getElem?_toList]
      have := congrArg (·[0]?) hcs
      simpa using this
    · have := hcell j hj
      rw [Addr.add_lit, Addr.add_lit] at this
      exact this
end Go.Proofs.YtghhakilkmbpdaaDoor
