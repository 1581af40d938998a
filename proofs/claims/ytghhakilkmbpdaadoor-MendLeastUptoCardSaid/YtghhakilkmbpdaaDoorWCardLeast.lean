/- MendLeast: whatever bytes and number come in (their bulk at most 2^20; the tables as the program's text lays them): nothing that is tried makes a document of b that is shorter than Rest's bytes, or as short and lesser. -/
import Derived.Test.YtghhakilkmbpdaaDoorWLeast
import Derived.Test.YtghhakilkmbpdaaDoorWOpen
import Derived.Test.YtghhakilkmbpdaaDoorCards
import Derived.Test.YtghhakilkmbpdaaDoorTie
import Derived.Deep.DeepHandedRow
import Derived.Deep.DeepWitnessRowRef
namespace Go.Proofs.YtghhakilkmbpdaaDoor
open Go Go.RowKit Go.Shelf Go.Lib
open Go.ChangeShapes Go.WideShapes Go.ChangeAt

theorem own_ : ownKnob Tryd.prog.godebug = none := by kernel_rfl

theorem env_of {W : World} {l : List (String × DataW Unit)} (hL : laidMet Tryd.prog l W) (h1 : ("unicode/utf8.acceptRanges", (Rows.laid_unicode_utf8_acceptRanges : DataW Unit)) ∈ l)
    (h2 : ("gimlet/chars.ranges", (Rows.laid_gimlet_chars_ranges : DataW Unit)) ∈ l) (h3 : ("unicode/utf8.first", (Rows.laid_unicode_utf8_first : DataW Unit)) ∈ l) : Env W.heap.size W := by
  have r1 := Lib.laidMet.reads hL h1
  have r2 := Lib.laidMet.reads hL h2
  have r3 := Lib.laidMet.reads hL h3
  rw [acc_data] at r1
  rw [show (Rows.laid_unicode_utf8_first : DataW Unit) = Lib.firstData from Pinned.utf8First_eq] at r3
  have hu : Lib.Utf8Tabs 2 3 W := utf8Tabs_of_readsT (U8Types.of196 Tryd.laysValid) ⟨by kernel_rfl, by kernel_rfl, by kernel_rfl, by kernel_rfl, by kernel_rfl, by kernel_rfl, by kernel_rfl⟩ r3 r1
  have hr := rng_of_reads r2
  obtain ⟨_, _, _, _, hc0, _⟩ := hr 0 (by omega)
  exact ⟨Nat.le_refl _, ⟨lt_of_cell hc0, lt_of_cell (hu.1 0 (by omega)), lt_of_cell (hu.2 0 (by omega)).1⟩, hu, hr⟩

/-- the witness: the settled world, the tables holding what the program's text lays -/
noncomputable def laidWorld (os : Os) : World :=
  let N := (World.settled Tryd.prog os).heap.size
  let spans (c : Nat) : Obj := .cells ((Gm.rng c).flatMap fun s => [Value.int .i32 s.1, Value.int .i32 s.2]).toArray 94
  let w0 := World.holding Tryd.prog os ⟨#[spans 0, spans 1, spans 2, spans 3, spans 4, spans 5], #[], []⟩
  let put (h : Array Obj) (g : Nat) (cs : Array Value) : Array Obj := h.modify g fun
    | .cells _ t frozen => .cells cs t frozen
    | o => o
  let h1 := put w0.heap 2 (Lib.firstTab.map fun z => Value.int .u8 z).toArray
  let h2 := put h1 3 ((List.range 16).flatMap fun i => [Value.int .u8 (Lib.accLo i), Value.int .u8 (Lib.accHi i)]).toArray
  let h3 := put h2 1 ((List.range 6).map fun c => Value.slice (some ⟨N + c, 0, none⟩) (Gm.rng c).length (Gm.rng c).length).toArray
  { w0 with heap := h3 }

def wArgs : Array Value := #[.slice none 0 0, .slice none 0 0, .int .i64 0]

theorem laid_met (os : Os) : laidMet Tryd.prog Rows.mendLeastUptoRow.laid ((laidWorld os).forCall (fun _ _ => 0) ⟨#[], wArgs, []⟩).memory :=
  laidMet_of_run' 8 (by kernel_rfl) (by kernel_rfl)

theorem witness_row (os : Os) {H : Type} (enc : TypeId × Value → H) :
    (Rows.OpenSpec.upto Rows.mendLeastSpec).preRow enc Tryd.prog Tryd.f3 Rows.mendLeastUptoRow.domain false Rows.mendLeastUptoRow.laid ((laidWorld os).forCall (fun _ _ => 0) ⟨#[], wArgs, []⟩).memory wArgs := by
  have hw : (DataW.whole enc Tryd.prog ((laidWorld os).forCall (fun _ _ => 0) ⟨#[], wArgs, []⟩).memory (Tryd.f3).params.toList Rows.mendLeastSpec.vars false wArgs.toList 8).map (fun x => (x.1, x.2.1)) =
      some ([.nil, .nil, .lit (.int .i64 0)], []) := by kernel_rfl
  obtain ⟨⟨x1, x2, x3⟩, hx, hx1⟩ := Option.map_eq_some_iff.1 hw
  simp only [Prod.mk.injEq] at hx1
  obtain ⟨rfl, rfl⟩ := hx1
  exact OpenSpec.preRow_of_cond 8 hx (by kernel_rfl) (fun k hk => by cases hk; kernel_rfl) (by kernel_rfl) (laid_met os)

set_option maxRecDepth 100000 in
set_option maxHeartbeats 2000000 in
theorem lifted (os : Os) (started : os.Started) (H : Type) (enc : TypeId × Value → H) (F : Stop.Interp) :
    ReturnsInHanded {} Tryd.checked os 3 .any ((Rows.OpenSpec.upto Rows.mendLeastSpec).preRow enc Tryd.prog Tryd.f3 Rows.mendLeastUptoRow.domain false Rows.mendLeastUptoRow.laid) (((Rows.OpenSpec.upto Rows.mendLeastSpec).at F).post enc Tryd.prog Tryd.f3 false true false false) := by
  refine returnsInHanded_of_row (C := Tryd.checked) (s := Rows.OpenSpec.upto Rows.mendLeastSpec) own_ started (by kernel_rfl) Tryd.func3
    (witness_row_atRef (enc := enc) (C := Tryd.checked) false (laidWorld os) wArgs rfl (by kernel_rfl) (by kernel_rfl) (by kernel_rfl) (witness_row os enc)) ?_
  intro W base args ds gs before hval0 hW _ hcond0 _ hL _ _
  have hcond : Rows.uptoSmall H (ds ++ gs) = true := hcond0 _ rfl
  have hval : ∀ (j : Nat) t v, (Tryd.f3).params[j]? = some t → args[j]? = some v → Value.okWide Tryd.prog W .any base t v := hval0
  have hW' := hW
  obtain ⟨p, q, hA0, hV0, rfl, _, _⟩ := hW
  have hA : DataW.TrodAll enc Tryd.prog W 0 (fun _ => true) true (Tryd.f3).params.toList args.toList ds p := hA0
  rw [Tryd.params3] at hA hval
  obtain ⟨v0, v1, v2, d0, d1, d2, p0, p1, p2, rfl, rfl, rfl, h0, h1, h2⟩ := trodAll_three hA
  obtain ⟨rfl, rfl⟩ := trodVars_none hV0
  obtain ⟨ao, ca, b, rfl, hbk, hin, hre⟩ := open_bytes (hval 0 22 v0 rfl rfl) h0
  obtain ⟨to_, ct, t, rfl, htk, htin, htre⟩ := open_bytes (hval 1 22 v1 rfl rfl) h1
  obtain ⟨k, rfl, rfl, rfl, wk⟩ := open_int Tryd.underlying3 (hval 2 3 v2 rfl rfl) h2
  clear hA0 hval0 hV0
  have hk : Rows.uptoBulkAll ([d0, d1, .lit (.int .i64 k)] ++ []) ≤ 1048576 := of_decide_eq_true hcond
  simp only [List.append_nil, Rows.uptoBulkAll, Rows.uptoBulk] at hk
  have hib := hin (by omega)
  have hit := htin (by omega)
  have hlb := hib.le
  have hlt := hit.le
  have henv : Env W.heap.size W := env_of hL (.head _) (.tail _ (.head _)) (.tail _ (.tail _ (.head _)))
  have hkr : -9223372036854775808 ≤ k ∧ k ≤ 9223372036854775807 := by
    have e1 : IntKind.i64.min = -9223372036854775808 := rfl
    have e2 : IntKind.i64.max = 9223372036854775807 := rfl
    simpa [Lit.wf, e1, e2] using wk
  refine (least_any henv hib hit (by omega) k hkr).mono ?_
  rintro e W' ⟨rfl, hf⟩
  have hlt' := fun x hx => hW'.lt x hx
  refine ⟨_, rfl, _, _, _, [], p0 ++ (p1 ++ []), [], hW', ?_, ?_, ?_, hf.below.frame _, fun h => by cases h⟩
  · exact trodAll_mk1 (shut_bool Tryd.underlying4 true)
  · exact trodAll_mk3 (hre W' hf _ (fun x hx => by simpa using hlt' x (by simp [hx]))) (htre W' hf _ (fun x hx => by simpa using hlt' x (by simp [hx]))) (shut_int Tryd.underlying3 wk)
  · rfl

theorem saidUpto : Rows.MendLeastUptoSaid :=
  OpenClaim.holds_of_cond 3 Tryd.f3 rfl rfl rfl rfl rfl rfl rfl ⟨rfl, rfl, rfl, rfl, rfl⟩ rfl rfl rfl rfl rfl (by kernel_rfl) Tryd.func3 (by kernel_rfl)
    (of_decide_eq_true (by kernel_rfl)) (by unfold Func.isWrapper; first | (rw [if_pos (by decide +kernel)]; kernel_rfl) | (rw [if_neg (by decide +kernel)]; exact ⟨rfl, rfl⟩))
    (fun os started H enc _ F => by rw [OpenClaim.pre_eq_preRow]; exact lifted os started H enc F)

/-- No parameter wants a stand-in; the program's own looks are off: what the card asks. -/
theorem plain (f : FuncId) (fn : Func) (hf : Tryd.pinned.checked.prog.funcNamed "gimlet/gimletlaw28.MendLeast" = some f) (hfn : Tryd.pinned.checked.prog.funcs[f]? = some fn) :
    true = Tryd.pinned.checked.prog.looks [] ∧ ∀ (j : Nat) t, fn.params[j]? = some t → Tryd.pinned.checked.prog.wantsStandIn t = false := by
  obtain rfl : f = 3 := Option.some.inj ((show Tryd.prog.funcNamed "gimlet/gimletlaw28.MendLeast" = some 3 by kernel_rfl).symm.trans hf) |>.symm
  obtain rfl : fn = Tryd.f3 := (Option.some.inj ((Tryd.func3).symm.trans hfn)).symm
  refine ⟨by kernel_rfl, fun j t ht => ?_⟩
  rw [Tryd.params3] at ht
  have hm : t = 22 ∨ t = 3 := by simpa using Array.mem_of_getElem? ht
  rcases hm with rfl | rfl
  · exact (show Tryd.prog.wantsStandIn 22 = false by kernel_rfl)
  · exact (show Tryd.prog.wantsStandIn 3 = false by kernel_rfl)

/-- THE CARD -/
theorem cardUpto : Rows.MendLeastUptoCardSaid :=
  Claim7.holds_tied_plain_at .later [] _ _ _ _ saidUpto (fun _ h => by cases h) (by kernel_rfl) (fun _ h => by cases h) mendLeastUpto_row_tie rfl ⟨rfl, rfl⟩ (by kernel_rfl) rfl plain (by kernel_rfl)
end Go.Proofs.YtghhakilkmbpdaaDoor
