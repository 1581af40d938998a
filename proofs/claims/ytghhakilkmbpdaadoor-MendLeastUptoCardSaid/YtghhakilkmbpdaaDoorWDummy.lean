/- A way out of a region whose order is drawn: a call that panics ends the way; what is left for the region's tactic is an empty region. -/
import Derived.Test.YtghhakilkmbpdaaDoorWMust
import Derived.Deep.RegionWith
namespace Go.Proofs.YtghhakilkmbpdaaDoor
open Go Go.RowKit

theorem panics {P : Program} {md : Region.Mode} {G : Prop} (w : World) (g : G) (_h : wpAny P md #[] (fun _ _ _ => True) 0 #[] ⟨#[], []⟩ w) : G := g
end Go.Proofs.YtghhakilkmbpdaaDoor

/- A region whose order is drawn, whose operations read and whose callees make memory at most: walked once, in the text's order: every world of it is the one at hand, grown. -/
namespace Go.Proofs.YtghhakilkmbpdaaDoor
open Go Go.RowKit

/-- a world that has grown out of w -/
def Ext (w : World) : Type := { W : World // Fr S0 w W }
instance (w : World) : Nonempty (Ext w) := ⟨⟨w, Fr.refl _ _⟩⟩
def up {w : World} (i : Ext w) : World := i.1
theorem up_fr {w : World} (i : Ext w) : Fr S0 w (up i) := i.2

theorem wp_region_up {P : Program} {id : Nat} {Q : Exit → Act → World → Prop} {a : Act} {w : World} {l : List Oper} (hm : P.follows .mixedOrders = true) (hB : Region.lexB .any l.toArray = true)
    (h : wpQuiet P l.toArray (fun w' => ∃ i : Ext w, w' = up i) (fun a' => ∀ w', (∃ i : Ext w, w' = up i) → Q .normal a' w') l a) : (Code.region id l.toArray true).wp P Q a w :=
  wp_region_quiet (C := fun w' => ∃ i : Ext w, w' = up i) hm hB ⟨⟨w.drew, Fr.drew _ _⟩, rfl⟩ (by simpa using h)

theorem calls_up {P : Program} {f : FuncId} {args : Array Value} {w : World} {i : Ext w} {v : Value}
    (h : Calls P f args (up i) fun e w' => e = .returned v ∧ Fr S0 (up i) w') : Calls P f args (up i) fun e w'' => e = .returned v ∧ ∃ j : Ext w, w'' = up j :=
  h.mono fun _ w'' ⟨he, hf⟩ => ⟨he, ⟨w'', (up_fr i).trans hf⟩, rfl⟩
theorem calls_up_drew {P : Program} {f : FuncId} {args : Array Value} {w : World} {i : Ext w} {v : Value}
    (h : Calls P f args (up i) fun e w' => e = .returned v ∧ ∃ n, w' = (up i).drewN n) : Calls P f args (up i) fun e w'' => e = .returned v ∧ ∃ j : Ext w, w'' = up j :=
  calls_up (h.mono fun _ _ ⟨he, n, hw⟩ => ⟨he, by rw [hw]; exact Fr.drewN _ _ _⟩)
theorem calls_up_same {P : Program} {f : FuncId} {args : Array Value} {w : World} {i : Ext w} {v : Value}
    (h : Calls P f args (up i) fun e w' => e = .returned v ∧ w' = up i) : Calls P f args (up i) fun e w'' => e = .returned v ∧ ∃ j : Ext w, w'' = up j :=
  calls_up (h.mono fun _ _ ⟨he, hw⟩ => ⟨he, by rw [hw]; exact Fr.refl _ _⟩)
end Go.Proofs.YtghhakilkmbpdaaDoor
