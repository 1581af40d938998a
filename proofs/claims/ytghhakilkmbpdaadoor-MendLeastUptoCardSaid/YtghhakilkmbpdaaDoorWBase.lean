/- What the walks of this seat share: what a call may turn of the memory ahead of it; the tables that the program reads. -/
import Derived.WalkKit
import Derived.WalkLawsBesides
import Derived.WalkSpells
import Derived.Outline
import Derived.Deep.QuietTactic
import Derived.BigQuiet
import Derived.Below
import Derived.Lib.Hide
import Derived.Deep.LoopGhost
import Derived.Deep.RegionWith
import Derived.Deep.DeepFit
import Derived.Test.YtghhakilkmbpdaaDoorShelf
import Derived.Test.YtghhakilkmbpdaaDoorPDoc
import Derived.Test.YtghhakilkmbpdaaDoorPChar
namespace Go.Proofs.YtghhakilkmbpdaaDoor
open Go Go.RowKit

/-- behind it the blocks that were there are as they were, but those of S; the streams are as they were -/
structure Fr (S : Nat → Prop) (w w' : World) : Prop where
  os : w'.os = w.os
  tape : w'.tape = w.tape
  output : w'.output = w.output
  size : w.heap.size ≤ w'.heap.size
  block : ∀ k, k < w.heap.size → ¬ S k → w'.heap[k]? = w.heap[k]?

def S0 : Nat → Prop := fun _ => False

theorem Fr.refl (S : Nat → Prop) (w : World) : Fr S w w := ⟨rfl, rfl, rfl, Nat.le_refl _, fun _ _ _ => rfl⟩
theorem Fr.trans {S : Nat → Prop} {a b c : World} (h : Fr S a b) (k : Fr S b c) : Fr S a c :=
  ⟨k.os.trans h.os, k.tape.trans h.tape, k.output.trans h.output, Nat.le_trans h.size k.size, fun i hi hs => (k.block i (Nat.lt_of_lt_of_le hi h.size) hs).trans (h.block i hi hs)⟩
theorem Fr.mono {S S' : Nat → Prop} {a b : World} (h : Fr S a b) (hs : ∀ k, k < a.heap.size → S k → S' k) : Fr S' a b :=
  ⟨h.os, h.tape, h.output, h.size, fun k hk hn => h.block k hk fun hk' => hn (hs k hk hk')⟩
theorem Fr.of0 {S : Nat → Prop} {a b : World} (h : Fr S0 a b) : Fr S a b := h.mono fun _ _ h => h.elim
theorem Fr.drewN (S : Nat → Prop) (w : World) (n : Nat) : Fr S w (w.drewN n) := ⟨rfl, rfl, rfl, Nat.le_refl _, fun _ _ _ => rfl⟩
theorem Fr.drew (S : Nat → Prop) (w : World) : Fr S w w.drew := ⟨rfl, rfl, rfl, Nat.le_refl _, fun _ _ _ => rfl⟩
theorem Fr.alloc (S : Nat → Prop) (w : World) (o : Obj) : Fr S w (w.alloc o) :=
  ⟨rfl, rfl, rfl, by simp, fun k hk _ => Below.heap_alloc _ _ _ hk⟩
theorem Fr.setCell {S : Nat → Prop} (w : World) (a : Addr) (u : Value) (hs : S a.block ∨ w.heap.size ≤ a.block) : Fr S w (w.setCell a u) :=
  ⟨rfl, rfl, rfl, by simp [World.setCell], fun k hk hn => Below.heap_setCell _ _ _ _ (by
    rintro rfl
    rcases hs with hs | hs
    · exact hn hs
    · omega)⟩
theorem Fr.of_below {S : Nat → Prop} {w w' : World} (h : Below w.heap.size w w') : Fr S w w' := ⟨h.os, h.tape, h.output, h.size, fun k hk _ => h.block k hk⟩
theorem Fr.below {w w' : World} (h : Fr S0 w w') : Below w.heap.size w w' := ⟨h.os, h.tape, h.output, h.size, fun k hk => h.block k hk fun h => h⟩
theorem Fr.cell {S : Nat → Prop} {w w' : World} (h : Fr S w w') {p : Addr} (hp : p.block < w.heap.size) (hs : ¬ S p.block) : w'.cell? p = w.cell? p := World.cell?_of_block (w := w) (h.block p.block hp hs)
theorem Fr.frozen {S : Nat → Prop} {w w' : World} (h : Fr S w w') {p : Addr} (hp : p.block < w.heap.size) (hs : ¬ S p.block) : w'.frozen? p = w.frozen? p := World.frozen?_of_block (w := w) (h.block p.block hp hs)
theorem lt_of_cell {w : World} {p : Addr} {v : Value} (h : w.cell? p = some v) : p.block < w.heap.size := by
  unfold World.cell? at h
  cases hb : w.heap[p.block]? with
  | none => rw [hb] at h; cases h
  | some o => exact (Array.getElem?_eq_some_iff.1 hb).1

/-- a class's ranges, in memory -/
def RngAt (w : World) (v : Value) (l : List (Nat × Nat)) : Prop :=
  ∃ bk off cap, v = .slice (some ⟨bk, off, none⟩) l.length cap ∧ ∀ j, j < l.length →
    w.cell? ⟨bk, off + j * 2, none⟩ = some (.int .i32 (l.getD j (0, 0)).1) ∧ w.cell? ⟨bk, off + j * 2 + 1, none⟩ = some (.int .i32 (l.getD j (0, 0)).2)

/-- the tables lie below block B -/
structure Env (B : Nat) (w : World) : Prop where
  le : B ≤ w.heap.size
  low : 1 < B ∧ 2 < B ∧ 3 < B
  u8 : Lib.Utf8Tabs 2 3 w
  rng : ∀ c, c < 6 → ∃ bk off cap, bk < B ∧ w.cell? ⟨1, c, none⟩ = some (.slice (some ⟨bk, off, none⟩) (Gm.rng c).length cap) ∧ ∀ j, j < (Gm.rng c).length →
    w.cell? ⟨bk, off + j * 2, none⟩ = some (.int .i32 ((Gm.rng c).getD j (0, 0)).1) ∧ w.cell? ⟨bk, off + j * 2 + 1, none⟩ = some (.int .i32 ((Gm.rng c).getD j (0, 0)).2)

theorem Env.fr {B : Nat} {S : Nat → Prop} {w w' : World} (h : Env B w) (hf : Fr S w w') (hS : ∀ k, k < B → ¬ S k) : Env B w' := by
  have hc : ∀ (p : Addr), p.block < B → w'.cell? p = w.cell? p := fun p hp => hf.cell (Nat.lt_of_lt_of_le hp h.le) (hS _ hp)
  refine ⟨Nat.le_trans h.le hf.size, h.low, ⟨fun c hcc => ?_, fun i hi => ?_⟩, fun c hcc => ?_⟩
  · rw [hc _ h.low.2.1]; exact h.u8.1 c hcc
  · rw [hc _ h.low.2.2, hc _ h.low.2.2]; exact h.u8.2 i hi
  · obtain ⟨bk, off, cap, h1, h2, h3⟩ := h.rng c hcc
    refine ⟨bk, off, cap, h1, by rw [hc _ h.low.1]; exact h2, fun j hj => ?_⟩
    rw [hc _ h1, hc _ h1]; exact h3 j hj
theorem Env.fr0 {B : Nat} {w w' : World} (h : Env B w) (hf : Fr S0 w w') : Env B w' := h.fr hf fun _ _ h => h

theorem rb {a b : Bool} (h : a = b) : Ending.returned (.bool a) = .returned (.bool b) := by rw [h]
theorem ri {k : IntKind} {a b : Int} (h : a = b) : Ending.returned (.int k a) = .returned (.int k b) := by rw [h]
theorem rs {a b : ByteArray} (h : a = b) : Ending.returned (.string a) = .returned (.string b) := by rw [h]
end Go.Proofs.YtghhakilkmbpdaaDoor
