/- A slice of bytes that came in, opened and shut; the tables' facts; what a reading of bulk bounded gives. -/
import Derived.Test.YtghhakilkmbpdaaDoorWRest
import Derived.Test.YtghhakilkmbpdaaDoorWTabs
import Derived.ProofKit
import Derived.OpenShut
namespace Go.Proofs.YtghhakilkmbpdaaDoor
open Go Go.RowKit Go.Shelf Go.Lib
open Go.ChangeShapes Go.WideShapes Go.ChangeAt

theorem bulk_one {H : Type} (d : DataW H) : 1 ≤ Rows.uptoBulk d := by
  cases d with
  | lit l => cases l <;> simp [Rows.uptoBulk]
  | nil => simp [Rows.uptoBulk]
  | ptr d => simp [Rows.uptoBulk]
  | slice elems spare => simp [Rows.uptoBulk]
  | agg parts => simp [Rows.uptoBulk]
  | iface t d => simp [Rows.uptoBulk]
  | map entries => simp [Rows.uptoBulk]
  | held h => simp [Rows.uptoBulk]
theorem bulk_len {H : Type} (l : List (DataW H)) : l.length ≤ Rows.uptoBulkAll l := by
  induction l with
  | nil => simp [Rows.uptoBulkAll]
  | cons x r ih => have := bulk_one x; simp only [Rows.uptoBulkAll, List.length_cons]; omega
theorem bulk_slice {H : Type} (elems spare : List (DataW H)) : elems.length + spare.length + 1 ≤ Rows.uptoBulk (.slice elems spare) := by
  have h1 := bulk_len elems
  have h2 := bulk_len spare
  simp only [Rows.uptoBulk]
  omega

def byteOf (z : Int) : UInt8 := UInt8.ofNat z.toNat
theorem byteOf_eq {z : Int} (h : (Lit.int .u8 z).wf = true) : ((byteOf z).toNat : Int) = z := by
  have e1 : IntKind.u8.min = 0 := rfl
  have e2 : IntKind.u8.max = 255 := rfl
  simp [Lit.wf, e1, e2] at h
  unfold byteOf
  simp
  omega

set_option maxRecDepth 100000 in
/-- a []uint8 that came in -/
theorem open_bytes {H : Type} {enc : TypeId × Value → H} {W : World} {r : Reach} {base : Nat} {v : Value} {d : DataW H} {p : List MemPlace} (hval : Value.okWide Tryd.prog W r base 22 v)
    (h : DataW.Trod enc Tryd.prog W 0 (fun _ => true) true 22 v d p) :
    ∃ ao cap b, v = .slice ao (List.length b) cap ∧ cap ≤ Rows.uptoBulk d ∧ (cap ≤ 4194304 → In W ao cap b) ∧
      ∀ W', Fr S0 W W' → ∀ sp : Nat → Bool, (∀ x ∈ p, sp x.block = true) → DataW.Trod enc Tryd.prog W' 0 sp true 22 v d p := by
  have hc1 : Tryd.prog.cellsOf 5 = 1 := by kernel_rfl
  obtain ⟨a0, len, cap, rfl⟩ := okWide_slice Tryd.underlying22 hval
  obtain ⟨fuel, hf⟩ := h
  rcases open_ints Tryd.underlying22 Tryd.underlying5 hc1 hf with ⟨hcs, hx⟩ | ⟨a, len', cap', zs, hcs, _, hl, hm, hz, hx, hcell, hwz⟩
  · simp [Value.cells] at hcs
    obtain ⟨rfl, rfl, rfl⟩ := hcs
    simp only [Prod.mk.injEq] at hx
    obtain ⟨rfl, rfl⟩ := hx
    exact ⟨none, 0, [], rfl, Nat.zero_le _, fun _ => ⟨.inl rfl, fun a ha => (by cases ha), Nat.le_refl _, by simp, by omega⟩, fun W' _ sp _ => shut_slice_nil Tryd.underlying22⟩
  · simp [Value.cells] at hcs
    obtain ⟨rfl, rfl, rfl⟩ := hcs
    simp only [Prod.mk.injEq] at hx
    obtain ⟨rfl, rfl⟩ := hx
    simp only [if_true] at hz
    have hhas : a.spot = none ∧ a.block < W.heap.size := by
      simp only [Value.okWide, Tryd.underlying22, Cell.okWide, Cell.ok, World.has] at hval
      obtain ⟨_, _, _, hs, row, cells, hsh, _⟩ := hval
      refine ⟨hs, ?_⟩
      unfold World.shape? at hsh
      cases hb : W.heap[a.block]? with
      | none => rw [hb] at hsh; cases hsh
      | some o => exact (Array.getElem?_eq_some_iff.1 hb).1
    obtain ⟨bk, off, spot⟩ := a
    obtain ⟨rfl, hblt⟩ := hhas
    have hlb : ((zs.take len).map byteOf).length = len := by simp; omega
    refine ⟨some ⟨bk, off, none⟩, cap, (zs.take len).map byteOf, by rw [hlb], ?_, fun hcap => ?_, fun W' hW' sp hsp => ?_⟩
    · refine Nat.le_trans ?_ (bulk_slice _ _)
      simp [lits]
      omega
    · refine ⟨?_, fun a ha => by cases ha; exact hblt, by rw [hlb]; exact hl, by rw [hlb]; omega, by omega⟩
      refine .inr ⟨bk, off, rfl, fun j hj => ?_⟩
      rw [hlb] at hj
      have hjz : j < zs.length := by omega
      have := hcell j hjz
      rw [Addr.add_lit] at this
      rw [this]
      have hw : (Lit.int .u8 zs[j]).wf = true := hwz _ (List.getElem_mem hjz)
      have e : ((zs.take len).map byteOf).getD j 0 = byteOf zs[j] := by
        simp [List.getD, List.getElem?_take_of_lt hj, hjz]
      rw [e, byteOf_eq hw]
      simp [List.getD, hjz]
    · have hcell' : ∀ i, i < zs.length → W'.cell? ((⟨bk, off, none⟩ : Addr).add i) = some (.int .u8 (zs.getD i 0)) := by
        intro i hi
        rw [Addr.add_lit]
        rw [hW'.cell (p := ⟨bk, off + i, none⟩) hblt (fun h => h)]
        have := hcell i hi
        rwa [Addr.add_lit] at this
      by_cases hz0 : zs.length = 0
      · have hc0 : cap = 0 := by omega
        have hl0 : len = 0 := by omega
        subst hc0; subst hl0
        have t0 := shut_ints (enc := enc) (w := W') (base := 0) (spare := sp) (held := true) (a := ⟨bk, off, none⟩) (len := 0) (cap := 0) (zs := zs) 0 Tryd.underlying22 Tryd.underlying5 hc1 (Nat.zero_le _) (Nat.le_refl _) hm (by simp [hz0]) hcell' hwz
        exact ⟨2, by simpa [Value.cells] using t0⟩
      · have hspb : sp bk = true := hsp (.cell bk off) (MemPlace.mem_row.2 ⟨0, by omega, by simp⟩)
        have t0 := shut_ints (enc := enc) (w := W') (base := 0) (spare := sp) (held := true) (a := ⟨bk, off, none⟩) (len := len) (cap := cap) (zs := zs) 0 Tryd.underlying22 Tryd.underlying5 hc1 (Nat.zero_le _) hl hm (by simp [hspb, hz]) hcell' hwz
        exact ⟨2, by simpa [Value.cells] using t0⟩
end Go.Proofs.YtghhakilkmbpdaaDoor
