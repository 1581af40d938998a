/- The set of names that stand in a tag, in memory. -/
import Derived.Test.YtghhakilkmbpdaaDoorWWhole
import Derived.Maps.OwnOps
import Derived.Maps.Views
import Derived.Maps.Own
import Derived.StringKeys
namespace Go.Proofs.YtghhakilkmbpdaaDoor
open Go Go.RowKit Go.Maps

theorem hadLaw : Keyed Tryd.prog 9 := string_keyed Tryd.underlying9
theorem hadZero (w : World) : (zeroValue 3).run Tryd.prog w = .ok (.int .i64 0) w := by kernel_rfl

/-- block m is a map that has these names, each with 1 -/
def HadAt (w : World) (m : Nat) (had : List Gm.Bs) : Prop := ∃ D : DataW Unit, w.ownsMap Tryd.prog 9 (plainElem Tryd.prog 3) m had.length D ∧
  ∀ s : Gm.Bs, D.atKey (.string s) (.lit (.int .i64 0)) = .lit (.int .i64 (if s ∈ had then 1 else 0))

theorem HadAt.lt {w : World} {m : Nat} {had : List Gm.Bs} (h : HadAt w m had) : m < w.heap.size := by
  obtain ⟨D, h, _⟩ := h
  exact h.lt

theorem HadAt.fr {S : Nat → Prop} {w w' : World} {m : Nat} {had : List Gm.Bs} (h : HadAt w m had) (hf : Fr S w w') (hm : ¬ S m) : HadAt w' m had := by
  have hl := h.lt
  obtain ⟨D, ⟨es, clock, hb, rest⟩, h2⟩ := h
  exact ⟨D, ⟨es, clock, (hf.block m hl hm).trans hb, rest⟩, h2⟩

theorem had_key (s : Gm.Bs) (hs : s.length ≤ maxLen) : keyOf Tryd.prog 9 (.string ⟨s.toArray⟩) = some (.string s) := by
  have := Go.WideMaps.keyOf_string_mk Tryd.underlying9 (s := ⟨s.toArray⟩) (by rw [size_list]; exact hs)
  simpa using this

theorem had_lookup {w : World} {m : Nat} {had : List Gm.Bs} (h : HadAt w m had) (s : Gm.Bs) (hs : s.length ≤ maxLen) :
    (Instr.lookup 78 (.map (some m)) (.string ⟨s.toArray⟩) false).run Tryd.prog w = .ok (.int .i64 (if s ∈ had then 1 else 0)) w := by
  obtain ⟨D, h1, h2⟩ := h
  obtain ⟨c, hrun, hat, _⟩ := h1.lookup_int hadLaw Tryd.underlying78 Tryd.underlying3 (hadZero w) (had_key s hs)
  rw [h2 s] at hat
  simp only [DataW.lit.injEq, Lit.int.injEq, true_and] at hat
  rw [hrun, ← hat]

theorem had_put {w : World} {m : Nat} {had : List Gm.Bs} (h : HadAt w m had) (hl : had.length < maxLen) (s : Gm.Bs) (hs : s.length ≤ maxLen) :
    ∃ w', (Instr.mapUpdate 78 (.map (some m)) (.string ⟨s.toArray⟩) (.int .i64 1)).run Tryd.prog w = .ok () w' ∧ HadAt w' m (s :: had) ∧ Fr (only m) w w' := by
  obtain ⟨D, h1, h2⟩ := h
  obtain ⟨w', hrun, hown, hg⟩ := h1.update hadLaw Tryd.underlying78 hl (had_key s hs) (plainElem_int Tryd.underlying3 (by decide) : plainElem Tryd.prog 3 (.int .i64 1) = _)
  refine ⟨w', hrun, ⟨_, hown, fun t => ?_⟩, ⟨hg.os, hg.tape, hg.output, hg.size, fun k hk hn => hg.block k hk (fun e => hn (Option.some.inj e))⟩⟩
  have hmap : IsMap D := by
    obtain ⟨es, clock, _, _, _, hD⟩ := h1
    exact ⟨_, hD⟩
  by_cases e : t = s
  · subst e
    rw [atKey_put_same hmap (by simp [WideAt.IsKeyLit])]
    simp
  · rw [atKey_put_other (by intro h; exact e (by simpa using h)), h2 t]
    simp [e]

theorem had_new (w : World) : HadAt (w.alloc (.map #[] 0)) w.heap.size [] :=
  ⟨_, World.ownsMap_made w Tryd.prog 9 _, fun s => rfl⟩
end Go.Proofs.YtghhakilkmbpdaaDoor
