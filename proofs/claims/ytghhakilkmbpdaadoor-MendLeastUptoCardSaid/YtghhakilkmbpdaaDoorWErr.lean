/- Walks: errors.Is of a fault and its number. -/
import Derived.Test.YtghhakilkmbpdaaDoorWBase
import Derived.LaidEql
import Derived.Stop.Asserts
import Derived.RowKitTokens
namespace Go.Proofs.YtghhakilkmbpdaaDoor
open Go Go.RowKit Go.Extern.Stop Go.Stop Go.Extern

theorem run_equalIn_iface_int {P : Program} (w : World) (d : Nat) {ti tn : TypeId} {ms : Array (String × TypeId)} {i : TypeInfo} {k : IntKind} (a b : Int)
    (hi : P.underlying ti = some (.interface ms)) (hn : P.underlying tn = some (.int k)) (hinfo : P.info? tn = some i) (hcomp : i.comparable = true) :
    (Op.equalIn (d + 2) ti (.iface tn (.int k a)) (.iface tn (.int k b))).run P w = .ok (a == b) w := by
  simp [Op.equalIn, run_underlying hi, run_underlying hn, typeInfo, hinfo, hcomp]
theorem run_eql_iface_int {P : Program} (w : World) {ti tn : TypeId} {ms : Array (String × TypeId)} {i : TypeInfo} {k : IntKind} (a b : Int)
    (hi : P.underlying ti = some (.interface ms)) (hn : P.underlying tn = some (.int k)) (hinfo : P.info? tn = some i) (hcomp : i.comparable = true) :
    (binOp .eql ti (.iface tn (.int k a)) (.iface tn (.int k b))).run P w = .ok (.bool (a == b)) w := by
  simp only [binOp]
  simp [Op.equal, Op.maxDepth, run_equalIn_iface_int w 9998 a b hi hn hinfo hcomp]

theorem isTypeOf (v : Value) (w : World) : (Extern.ReflectliteType.typeOf #[.iface 33 v]).run Tryd.prog w = .ok (.iface 61 (.agg #[.pointer (some ⟨4, 33, none⟩)])) w := by kernel_rfl
def cmpM : Array Value → Sem Value := Extern.ReflectliteType.method fun t => do Extern.Rtype.noPackHeld "Comparable" t; pure (.bool (← typeInfo t).comparable)
theorem isComparable (w : World) : (cmpM #[.agg #[.pointer (some ⟨4, 33, none⟩)]]).run Tryd.prog w = .ok (.bool true) w := by kernel_rfl
theorem isMethodComparable (v : Value) (w : World) : (Go.method 242 61 v "Comparable").run Tryd.prog w = .ok (81, v) w := by kernel_rfl
theorem methodUnwrap (v : Value) (w : World) : (Go.method 242 42 v "Unwrap").run Tryd.prog w = .ok (77, v) w := by kernel_rfl
theorem isComp : (Tryd.prog.info? 33).map (·.comparable) = some true := by kernel_rfl
theorem noIsF (v : Value) (xT : TypeId) (w : World) : (Instr.typeAssert (.iface 42 v) xT 63 true).run Tryd.prog w = .ok (.tuple #[.nilIface, .bool false]) w := run_typeAssert_lacksB Tryd.underlying63 (by kernel_rfl) (by kernel_rfl) v xT w
theorem hasUnwrapF (v : Value) (xT : TypeId) (w : World) : (Instr.typeAssert (.iface 42 v) xT 66 true).run Tryd.prog w = .ok (.tuple #[.iface 42 v, .bool true]) w := run_typeAssert_hasB Tryd.underlying66 (by kernel_rfl) v xT w

theorem unwrap_any (a : Nat) (n : Int) (w : World) (h : w.cell? ⟨a, 4, none⟩ = some (.int .i64 n)) :
    Calls Tryd.prog 77 #[.pointer (some ⟨a, 0, none⟩)] w fun e w' => e = .returned (.iface 33 (.int .i64 n)) ∧ w' = w := by
  go_enter Tryd.func77, Tryd.ntmps77
  go_wp2
  go_ret
  exact ⟨rfl, rfl⟩

set_option maxRecDepth 100000 in
set_option maxHeartbeats 1000000 in
theorem is_doc (a : Nat) (w : World) (h : w.cell? ⟨a, 4, none⟩ = some (.int .i64 200)) :
    Calls Tryd.prog 9 #[.iface 42 (.pointer (some ⟨a, 0, none⟩)), .iface 33 (.int .i64 200)] w fun e w' => e = .returned (.bool true) ∧ w' = w := by
  obtain ⟨i, hi, hcmp⟩ := Option.map_eq_some_iff.1 isComp
  have h8 := @run_callFunc_extern Tryd.prog 13 _ Extern.ReflectliteType.typeOf Tryd.func13 (by kernel_rfl) (by kernel_rfl) (by kernel_rfl) (by kernel_rfl)
  have h32 := @run_callFunc_extern Tryd.prog 81 _ cmpM Tryd.func81 (by kernel_rfl) (by kernel_rfl) (by kernel_rfl) (by kernel_rfl)
  have tT := isTypeOf
  have cT := isComparable
  have nE := noIsF
  have mR := isMethodComparable
  have mU := methodUnwrap
  have uE := hasUnwrapF
  have heq := run_eql_iface_int (P := Tryd.prog) w 200 200 Tryd.underlying25 Tryd.underlying33 hi hcmp
  have hty := run_eql_iface_types (P := Tryd.prog) 42 33 (.pointer (some ⟨a, 0, none⟩)) (.int .i64 200) Tryd.underlying25 (by decide) w
  go_enter Tryd.func9, Tryd.ntmps9
  go_wp2
  refine wp_loop_rounds 2 ?_
  rw [rounds_succ]
  go_wp2
  rw [rounds_succ]
  go_wp2
  go_ret
  exact ⟨rfl, rfl⟩
end Go.Proofs.YtghhakilkmbpdaaDoor
