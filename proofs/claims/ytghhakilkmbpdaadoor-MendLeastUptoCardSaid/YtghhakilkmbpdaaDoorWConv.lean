/- Bytes and strings turned into each other, as the walk meets it. -/
import Derived.Laws.IdiomStrings
import Derived.Lib.ConvBytes
import Derived.Test.YtghhakilkmbpdaaDoorWDec
namespace Go.Proofs.YtghhakilkmbpdaaDoor
open Go Go.RowKit

theorem cat_list (a b : Gm.Bs) : (⟨a.toArray⟩ : ByteArray) ++ (⟨b.toArray⟩ : ByteArray) = ⟨(a ++ b).toArray⟩ := by
  ext1
  simp
theorem cat_one (a : Gm.Bs) (x : UInt8) : (⟨a.toArray⟩ : ByteArray) ++ (⟨#[x]⟩ : ByteArray) = ⟨(a ++ [x]).toArray⟩ := by
  ext1
  simp
theorem size_one (x : UInt8) : (⟨#[x]⟩ : ByteArray).size = 1 := rfl
theorem size_list (a : Gm.Bs) : (⟨a.toArray⟩ : ByteArray).size = a.length := by simp [ByteArray.size]

/-- the capacity, the world of '[]byte(s)' -/
noncomputable def gcap (W : World) (l : Gm.Bs) : Nat := grownCap W l.length 0 5
noncomputable def bworld (W : World) (l : Gm.Bs) : World := Lib.bytesWorld W 5 ⟨l.toArray⟩

theorem conv_bytes (W : World) (l : Gm.Bs) : (convert 9 22 (.string ⟨l.toArray⟩)).run Tryd.prog W = .ok (.slice (some ⟨W.heap.size, 0, none⟩) l.length (gcap W l)) (bworld W l) := by
  have := Lib.run_convert_string_bytes (P := Tryd.prog) W 9 22 5 ⟨l.toArray⟩ Tryd.underlying9 Tryd.underlying22 Tryd.underlying5
  rw [size_list] at this
  exact this

theorem bworld_at (W : World) (l : Gm.Bs) : (bworld W l).heap.size = W.heap.size + 1 := by
  simp [bworld, Lib.bytesWorld, World.freeze, World.alloc, World.drew, -World.alloc_eq, -World.drew_eq]

theorem bworld_fr (S : Nat → Prop) (W : World) (l : Gm.Bs) : Fr S W (bworld W l) := by
  refine ⟨?_, ?_, ?_, by rw [bworld_at]; omega, fun k hk _ => Lib.bytesWorld_at_old W 5 _ k hk⟩
  all_goals simp [bworld, Lib.bytesWorld, World.freeze, World.alloc, World.drew, -World.alloc_eq, -World.drew_eq]

theorem bworld_bytes (W : World) (l : Gm.Bs) : BAt (bworld W l) (some ⟨W.heap.size, 0, none⟩) l := by
  refine .inr ⟨W.heap.size, 0, rfl, fun j hj => ?_⟩
  have h := Lib.bytesWorld_at_new W 5 ⟨l.toArray⟩
  unfold bworld World.cell?
  rw [h]
  simp only [Nat.zero_add]
  have hb := bytesRow_at ⟨l.toArray⟩ (grownCap W (⟨l.toArray⟩ : ByteArray).size 0 5) j (by simpa using hj)
  simp at hb
  have e : l.getD j 0 = l[j] := by simp [List.getD, hj]
  rw [e]
  exact hb

theorem bworld_bytes_at (W : World) (l : Gm.Bs) (g : Nat) (hg : W.heap.size = g) : BAt (bworld W l) (some ⟨g, 0, none⟩) l := by
  subst hg; exact bworld_bytes W l

theorem conv_one (k : Nat) (hk : k < 256) (W : World) : (convert 22 9 (.slice (some ⟨W.heap.size, 0, none⟩) 1 1)).run Tryd.prog (W.alloc (.cells #[.int .u8 (k : Int)] 5)) = .ok (.string ⟨#[UInt8.ofNat k]⟩) (W.alloc (.cells #[.int .u8 (k : Int)] 5)) := by
  refine run_convert_bytes_back (P := Tryd.prog) _ 22 9 5 ⟨W.heap.size, 0, none⟩ 1 [UInt8.ofNat k] Tryd.underlying22 Tryd.underlying5 Tryd.underlying9 ?_
  intro j hj
  obtain rfl : j = 0 := by simpa using hj
  have : (UInt8.ofNat k).toNat = k := by simp; omega
  simp [Addr.add, this]

/-- 'string(b)' -/
theorem conv_str {W : World} {ao : Option Addr} {b : Gm.Bs} (h : BAt W ao b) (cap : Nat) : (convert 22 9 (.slice ao b.length cap)).run Tryd.prog W = .ok (.string ⟨b.toArray⟩) W := by
  cases ao with
  | some a =>
    refine run_convert_bytes_back (P := Tryd.prog) _ 22 9 5 a cap b Tryd.underlying22 Tryd.underlying5 Tryd.underlying9 ?_
    intro j hj
    rcases h with h | ⟨bk, off, h1, h⟩
    · subst h; simp at hj
    · cases h1
      have := h j hj
      simp [List.getD, hj] at this
      rw [Addr.add_lit]; exact this
  | none =>
    rcases h with h | ⟨bk, off, h1, h⟩
    · subst h
      exact run_convert_bytes_nil (P := Tryd.prog) (w := W) 22 5 Tryd.underlying22 Tryd.underlying5 _ cap 9 Tryd.underlying9
    · cases h1
end Go.Proofs.YtghhakilkmbpdaaDoor
