/- The reader in memory, and how its calls end: walks: ended, is, wrong. -/
import Derived.Test.YtghhakilkmbpdaaDoorWCompl
namespace Go.Proofs.YtghhakilkmbpdaaDoor
open Go Go.RowKit

/-- what the reader's fields hold -/
structure R where
  b : Gm.Bs
  ao : Option Addr
  cap : Nat
  at_ : Nat
  ov : Value
  o : List Gm.Bs
  root : Bool

def strsV (o : List Gm.Bs) : List Value := o.reverse.map fun n => .string ⟨n.toArray⟩

def R.cells (r : R) : Array Value := #[.slice r.ao r.b.length r.cap, .int .i64 r.at_, r.ov, .bool r.root]

structure Rd (B : Nat) (w : World) (p : Nat) (r : R) : Prop where
  env : Env B w
  hp : B ≤ p
  blk : w.heap[p]? = some (.cells r.cells 53 (0, 0))
  at_le : r.at_ ≤ r.b.length
  lcap : r.b.length ≤ r.cap
  small : r.b.length ≤ 4194304
  bcap : r.cap ≤ 9223372036854775807
  bytes : BAt w r.ao r.b
  low : ∀ a, r.ao = some a → a.block < B
  own : w.ownsRow (p + 1) 9 1 r.ov r.o.length (strsV r.o)
  olen : (Gm.closing r.o).length ≤ 4 * r.at_

section
variable {B : Nat} {w : World} {p : Nat} {r : R}
theorem Rd.lt (h : Rd B w p r) : p < w.heap.size := (Array.getElem?_eq_some_iff.1 h.blk).1
theorem Rd.cell (h : Rd B w p r) (j : Nat) : w.cell? ⟨p, j, none⟩ = r.cells[j]? := by
  unfold World.cell?
  rw [h.blk]
  rfl
theorem Rd.c0 (h : Rd B w p r) : w.cell? ⟨p, 0, none⟩ = some (.slice r.ao r.b.length r.cap) := h.cell 0
theorem Rd.c1 (h : Rd B w p r) : w.cell? ⟨p, 1, none⟩ = some (.int .i64 r.at_) := h.cell 1
theorem Rd.c2 (h : Rd B w p r) : w.cell? ⟨p, 2, none⟩ = some r.ov := h.cell 2
theorem Rd.c3 (h : Rd B w p r) : w.cell? ⟨p, 3, none⟩ = some (.bool r.root) := h.cell 3
theorem Rd.fz (h : Rd B w p r) (j : Nat) : w.frozen? ⟨p, j, none⟩ = false := by
  unfold World.frozen?
  rw [h.blk]
  simp

/-- the same reader behind whatever leaves its block, its row and what lies below B alone -/
theorem Rd.fr {S : Nat → Prop} {w' : World} (h : Rd B w p r) (hf : Fr S w w') (hS : ∀ k, k < B → ¬ S k) (hp : ¬ S p) (hv : ∀ k, r.ov.ownBlock = some k → ¬ S k) : Rd B w' p r := by
  refine ⟨h.env.fr hf hS, h.hp, by rw [hf.block p h.lt hp]; exact h.blk, h.at_le, h.lcap, h.small, h.bcap, h.bytes.fr hf (fun a ha => hS _ (h.low a ha)), h.low, ?_, h.olen⟩
  obtain ⟨h1, h2⟩ := h.own
  refine ⟨h1, ?_⟩
  rcases h2 with h2 | ⟨g, cap, cur, hvv, hg, hh, rest⟩
  · exact .inl h2
  · refine .inr ⟨g, cap, cur, hvv, hg, ?_, rest⟩
    rw [hf.block g (Array.getElem?_eq_some_iff.1 hh).1 (hv g (by rw [hvv]; rfl))]
    exact hh
theorem Rd.fr0 {w' : World} (h : Rd B w p r) (hf : Fr S0 w w') : Rd B w' p r := h.fr hf (fun _ _ h => h) (fun h => h) (fun _ _ h => h)

/-- its place moved on -/
theorem Rd.moved (h : Rd B w p r) (n : Nat) (hn : r.at_ ≤ n) (hl : n ≤ r.b.length) : Rd B (w.setCell ⟨p, 1, none⟩ (.int .i64 n)) p { r with at_ := n } := by
  have hf : Fr (fun k => k = p) w (w.setCell ⟨p, 1, none⟩ (.int .i64 n)) := Fr.setCell _ _ _ (.inl rfl)
  have hb : (w.setCell ⟨p, 1, none⟩ (.int .i64 n)).heap[p]? = some (.cells (R.cells { r with at_ := n }) 53 (0, 0)) := by
    simp only [World.setCell, Array.getElem?_modify, h.blk, if_true, Option.map_some]
    rfl
  have hpB : ∀ k, k < B → ¬ k = p := fun k hk e => by have := h.hp; omega
  refine ⟨h.env.fr hf hpB, h.hp, hb, hl, h.lcap, h.small, h.bcap, h.bytes.fr hf (fun a ha => hpB _ (h.low a ha)), h.low, ?_, Nat.le_trans h.olen (by simp only; omega)⟩
  exact ownsRow_setCell_below h.own (by simp) _
end

/-- how a reading stops -/
def stopE (wrong : Int) (rest : Gm.Bs) : Ending := .panicked [{ v := .iface 36 (.agg #[.int .i64 wrong, .string ⟨rest.toArray⟩]), recovered := false }]

/-- the machine stands so behind the first n bytes -/
def AtK (b : Gm.Bs) (n : Nat) (s : Gm.K) : Prop := n ≤ b.length ∧ Gm.K.init.run (b.take n) = some s

/-- the reading stops as the machine says -/
def Halts (b : Gm.Bs) (e : Ending) : Prop :=
  (∃ (n : Nat) (s : Gm.K) (x : UInt8), e = stopE n [] ∧ AtK b n s ∧ b[n]? = some x ∧ s.step x = none) ∨ (∃ s, Gm.K.init.run b = some s ∧ e = stopE (-1) s.rest)

theorem AtK.step {b : Gm.Bs} {n : Nat} {s s' : Gm.K} (h : AtK b n s) {x : UInt8} (hx : b[n]? = some x) (hs : s.step x = some s') : AtK b (n + 1) s' := by
  have hl := (List.getElem?_eq_some_iff.1 hx).1
  refine ⟨hl, ?_⟩
  rw [List.take_succ_eq_append_getElem hl, Gm.run_append, h.2]
  have : b[n] = x := (List.getElem?_eq_some_iff.1 hx).2
  rw [this]
  simp only [Option.bind_some, Gm.K.run, hs]
theorem AtK.wrong {b : Gm.Bs} {n : Nat} {s : Gm.K} (h : AtK b n s) {x : UInt8} (hx : b[n]? = some x) (hs : s.step x = none) : Halts b (stopE n []) := .inl ⟨n, s, x, rfl, h, hx, hs⟩
theorem AtK.ends {b : Gm.Bs} {n : Nat} {s : Gm.K} (h : AtK b n s) (hn : n = b.length) {r : Gm.Bs} (hr : s.rest = r) : Halts b (stopE (-1) r) := by
  subst hr
  refine .inr ⟨s, ?_, rfl⟩
  have := h.2
  rw [hn, List.take_length] at this
  exact this

theorem ended_any {B : Nat} {w : World} {p : Nat} {r : R} (h : Rd B w p r) :
    Calls Tryd.prog 17 #[.pointer (some ⟨p, 0, none⟩)] w fun e w' => e = .returned (.bool (decide (r.at_ = r.b.length))) ∧ ∃ n, w' = w.drewN n := by
  have c0 := h.c0
  have c1 := h.c1
  clear h
  generalize r.b.length = len at c0 ⊢
  generalize r.at_ = at_ at c1 ⊢
  go_enter Tryd.func17, Tryd.ntmps17
  go_wp2
  go_quiet (fail)
  go_wp2
  go_ret
  exact ⟨rb (by rw [Bool.eq_iff_iff]; simp [Int.ofNat_inj]), _, rfl⟩

theorem wrong_any (n : Int) (w : World) : Calls Tryd.prog 20 #[.int .i64 n] w fun e w' => e = stopE n [] ∧ Fr S0 w w' := by
  go_enter Tryd.func20, Tryd.ntmps20
  go_wp2
  exact ⟨rfl, rfl, Fr.refl _ _⟩

theorem ended_yes {B : Nat} {w : World} {p : Nat} {r : R} (h : Rd B w p r) (e : r.at_ = r.b.length) :
    Calls Tryd.prog 17 #[.pointer (some ⟨p, 0, none⟩)] w fun e w' => e = .returned (.bool true) ∧ ∃ n, w' = w.drewN n := by
  have := ended_any h
  rwa [show decide (r.at_ = r.b.length) = true by simpa using e] at this
theorem ended_no {B : Nat} {w : World} {p : Nat} {r : R} (h : Rd B w p r) (e : ¬ r.at_ = r.b.length) :
    Calls Tryd.prog 17 #[.pointer (some ⟨p, 0, none⟩)] w fun e w' => e = .returned (.bool false) ∧ ∃ n, w' = w.drewN n := by
  have := ended_any h
  rwa [show decide (r.at_ = r.b.length) = false by simpa using e] at this

theorem indexByte_ge (l : Gm.Bs) (c : UInt8) : (0 ≤ Lib.indexByte l c ↔ c ∈ l) ∧ (-1 ≤ Lib.indexByte l c) := by
  induction l with
  | nil => simp [Lib.indexByte]
  | cons b l ih =>
    simp only [Lib.indexByte]
    split
    · rename_i h
      have : b = c := by simpa using h
      simp [this]
    · rename_i h
      have hb : ¬ b = c := by simpa using h
      split
      · rename_i h1
        have h1 : Lib.indexByte l c = -1 := by simpa using h1
        have : ¬ c ∈ l := fun hm => by have := ih.1.2 hm; omega
        simp [this, Ne.symm hb]
      · rename_i h1
        have h1 : ¬ Lib.indexByte l c = -1 := by simpa using h1
        have h2 : c ∈ l := ih.1.1 (by have := ih.2; omega)
        simp [h2]
        have := ih.2
        omega

/-- the byte at the reader's place -/
theorem Rd.byte {B : Nat} {w : World} {p : Nat} {r : R} (h : Rd B w p r) (hl : r.at_ < r.b.length) : ∃ bk off, r.ao = some ⟨bk, off, none⟩ ∧
    w.cell? ⟨bk, off + r.at_, none⟩ = some (.int .u8 (r.b.getD r.at_ 0).toNat) := by
  rcases h.bytes with e | ⟨bk, off, e, hb⟩
  · rw [e] at hl; simp at hl
  · exact ⟨bk, off, e, hb _ hl⟩

def isIt (set : Gm.Bs) (b : Gm.Bs) (n : Nat) : Bool := match b[n]? with
  | some x => decide (x ∈ set)
  | none => false

set_option maxHeartbeats 800000 in
theorem is_any {B : Nat} {w : World} {p : Nat} {r : R} (h : Rd B w p r) (set : Gm.Bs) :
    Calls Tryd.prog 19 #[.pointer (some ⟨p, 0, none⟩), .string ⟨set.toArray⟩] w fun e w' => e = .returned (.bool (isIt set r.b r.at_)) ∧ ∃ n, w' = w.drewN n := by
  have c0 := h.c0
  have c1 := h.c1
  have hle := h.at_le
  have HH := Lib.hid h
  by_cases hend : r.at_ = r.b.length
  · have hi : isIt set r.b r.at_ = false := by simp [isIt, hend]
    rw [hi]
    have HE := Lib.hid hend
    clear h hend hi
    go_enter Tryd.func19, Tryd.ntmps19
    go_wp2
    go_quiet ((go_at_call 17; exact Calls.quiet_of (ended_yes (HH.out.fr0 (Fr.drewN _ _ _)) HE.out)))
    go_wp2
    go_ret
    exact ⟨rfl, _, rfl⟩
  · have hlt : r.at_ < r.b.length := by omega
    obtain ⟨bk, off, hao, hc⟩ := h.byte hlt
    have hi : isIt set r.b r.at_ = decide (r.b.getD r.at_ 0 ∈ set) := by
      simp [isIt, List.getD, hlt]
    rw [hi]
    rw [hao] at c0
    have hx : ((r.b.getD r.at_ 0).toNat : Int).toNat.toUInt8 = r.b.getD r.at_ 0 := by simp
    obtain ⟨hix, hix2⟩ := indexByte_ge set (r.b.getD r.at_ 0)
    have hidx := Tryd.strings_IndexByte ⟨set.toArray⟩ (r.b.getD r.at_ 0).toNat
    rw [hx] at hidx
    have HE := Lib.hid hend
    have HI := Lib.hid hidx
    have HX := Lib.hid hix
    clear h hend hi hle hx hidx hix
    generalize r.b.getD r.at_ 0 = x at hc HI HX hix2 ⊢
    go_enter Tryd.func19, Tryd.ntmps19
    go_wp2
    go_quiet (first | (go_at_call 17; exact Calls.quiet_of (ended_no (HH.out.fr0 (Fr.drewN _ _ _)) HE.out)) | (go_at_call 24; exact Calls.quiet_of_same (HI.out _)))
    go_wp2
    go_ret
    exact ⟨rb (by simp [HX.out]), _, rfl⟩
end Go.Proofs.YtghhakilkmbpdaaDoor
