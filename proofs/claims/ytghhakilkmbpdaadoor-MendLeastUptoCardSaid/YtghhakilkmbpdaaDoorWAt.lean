/- Walks: runes.All, runes.At. -/
import Derived.Test.YtghhakilkmbpdaaDoorWScan
import Derived.RangeFuncNested
import Derived.RangeFuncBound
import Derived.RangeFuncCalls
import Derived.RangeFuncLeaves
import Derived.Shelf.Abstract
import Derived.Shelf.RegionOpen
import Derived.OwnWalkIn
import Derived.TacticsInMore
import Derived.LoopNIn
import Derived.LoopIn
namespace Go.Proofs.YtghhakilkmbpdaaDoor
open Go Go.RowKit Go.Shelf
attribute [local go_sem] Oper.semAt_some

/-- the characters of a string, with their places, as Go's range gives them -/
def runesAt : Nat → Nat → Gm.Bs → List (Nat × Nat)
  | 0, _, _ => []
  | n + 1, pos, l => if l = [] then [] else (pos, (decL l).1) :: runesAt n (pos + (decL l).2) (l.drop (decL l).2)

abbrev Rune := { x : Nat × Nat // x.1 ≤ 4194304 ∧ x.2 ≤ 1114111 }
abbrev encs (x : Rune) : Array Value := #[.int .i64 x.1.1, .int .i32 x.1.2]

theorem decL_w (l : Gm.Bs) : 1 ≤ (decL l).2 := by rw [← decL_eq]; exact Lib.decodeL_width l
theorem decL_le (l : Gm.Bs) (h : l ≠ []) : (decL l).2 ≤ l.length := by rw [← decL_eq]; exact Lib.decodeL_le l h
theorem decL_r (l : Gm.Bs) : (decL l).1 ≤ 1114111 := by rw [← decL_eq]; exact Lib.decodeL_rune l

theorem runesAt_more (n m pos : Nat) (l : Gm.Bs) (h1 : l.length ≤ n) (h2 : l.length ≤ m) : runesAt n pos l = runesAt m pos l := by
  induction n generalizing m pos l with
  | zero =>
    obtain rfl : l = [] := List.length_eq_zero_iff.1 (by omega)
    cases m <;> simp [runesAt]
  | succ n ih =>
    cases m with
    | zero =>
      obtain rfl : l = [] := List.length_eq_zero_iff.1 (by omega)
      simp [runesAt]
    | succ m =>
      simp only [runesAt]
      split
      · rfl
      · rename_i hl
        have hw := decL_w l
        have hp : 0 < l.length := List.length_pos_iff.2 hl
        rw [ih m _ (l.drop (decL l).2) (by simp; omega) (by simp; omega)]
theorem runesAt_len (n pos : Nat) (l : Gm.Bs) : (runesAt n pos l).length ≤ n := by
  induction n generalizing pos l with
  | zero => simp [runesAt]
  | succ n ih =>
    simp only [runesAt]
    split
    · simp
    · have := ih (pos + (decL l).2) (l.drop (decL l).2)
      simp only [List.length_cons]
      omega

theorem grownBy_iterAt (W : World) (k : Nat) (s : ByteArray) (pos : Nat) : W.grownBy (W.iterAt k s pos) (some k) :=
  ⟨rfl, rfl, rfl, by rw [Lib.iterAt_size]; exact Nat.le_refl _, fun i hi hne => Lib.iterAt_other W k i s pos (fun e => hne (by rw [e]))⟩

set_option maxHeartbeats 1000000 in
theorem all1_stops (s : Gm.Bs) (hs : s.length ≤ 4194304) (n : Nat) (hn : 1 ≤ n) (c : Nat) (w0 : World) (hc : w0.cell? ⟨c, 0, none⟩ = some (.string ⟨s.toArray⟩)) :
    SeqStopsA Fence.wide n Tryd.prog 30 #[.pointer (some ⟨c, 0, none⟩)] encs (fun xs => xs.map Subtype.val = runesAt s.length 0 s) (fun _ => True) s.length w0 := fun l J Jx W hW hJ hJx hY h0 => by
  have hsz := size_list s
  have hcW : W.cell? ⟨c, 0, none⟩ = some (.string ⟨s.toArray⟩) := (hW.cell (p := ⟨c, 0, none⟩) (lt_of_cell hc)).trans hc
  refine callsIn_of_wp Tryd.func30 rfl trivial ?_ rfl
  simp only [Tryd.ntmps30, List.size_toArray, List.length_cons, List.length_nil, Nat.reduceAdd, Nat.reduceSub, Array.replicate_succ, Array.replicate_zero, List.push_toArray, List.append_toArray, List.nil_append, List.cons_append]
  have HY := Lib.hid hY
  have HJ := Lib.hid hJ
  clear hY hJ hJx hW hc
  gi_wp2
  gi_loopw [] (fun wr => ∃ (pre : List Rune) (u v : Gm.Bs), s = u ++ v ∧ pre.length ≤ u.length ∧ pre.map Subtype.val ++ runesAt v.length u.length v = runesAt s.length 0 s ∧ J pre wr ∧ wr.heap[W.heap.size]? = some (.stringIter ⟨s.toArray⟩ u.length)) (fun wr => s.length - wr.iterPos W.heap.size)
  case atStart => exact ⟨[], [], s, rfl, Nat.le_refl _, rfl, HJ.out [] W _ none h0 (World.grownBy_alloc W _ none) (fun r e => by cases e), World.iter_heap W ⟨s.toArray⟩ 0⟩
  case round =>
    obtain ⟨pre, u, v, huv, hpl, hrs, hJp, hit⟩ := hrel
    have HUV := Lib.hid huv
    have HRS := Lib.hid hrs
    have hlen : s.length = u.length + v.length := by rw [HUV.out]; simp
    have HLEN := Lib.hid hlen
    clear huv hrs hlen
    by_cases hv : v = []
    · have hp : ¬ u.length < (⟨s.toArray⟩ : ByteArray).size := by rw [hsz, HLEN.out, hv]; simp
      have hnx : ∀ ty, (Instr.next (.pointer (some ⟨W.heap.size, 0, none⟩)) true ty).run Tryd.prog wr = _ := fun ty => Lib.run_next_end_at wr W.heap.size ⟨s.toArray⟩ u.length ty hit hp
      have HV := Lib.hid hv
      clear hv hp
      gi_wp2
      go_end0
      exact ⟨⟨_, rfl⟩, .inl ⟨pre, (by have := HRS.out; rw [HV.out] at this; simpa [runesAt] using this), hJp⟩⟩
    · have hvl : 0 < v.length := List.length_pos_iff.2 hv
      have hp : u.length < (⟨s.toArray⟩ : ByteArray).size := by rw [hsz, HLEN.out]; omega
      have hdec : Utf8.decode ⟨s.toArray⟩ u.length = decL v := by rw [decode_drop, HUV.out, List.drop_left]
      have hw1 := decL_w v
      have hw2 := decL_le v hv
      have hr1 := decL_r v
      have hnx0 := fun ty => Lib.run_next_any_at (P := Tryd.prog) wr W.heap.size ⟨s.toArray⟩ u.length ty hit hp
      rw [hdec] at hnx0
      have hit2 := Lib.iterAt_heap wr W.heap.size ⟨s.toArray⟩ u.length (u.length + (decL v).2) hit
      have hJ2 := HJ.out pre wr _ (some W.heap.size) hJp (grownBy_iterAt wr W.heap.size ⟨s.toArray⟩ (u.length + (decL v).2)) (fun r e => by cases e; exact ⟨Nat.le_refl _, _, hit, rfl⟩)
      obtain ⟨x, hx⟩ : ∃ x : Rune, x.1 = (u.length, (decL v).1) := ⟨⟨(u.length, (decL v).1), by have := HLEN.out; simp only; omega, hr1⟩, rfl⟩
      obtain ⟨fn, tmps, assign, body, hy, hR⟩ := HY.out pre x _ hJ2 (by have := HLEN.out; omega)
      simp only [encs, hx] at hy
      have hpre : (pre ++ [x]).map Subtype.val ++ runesAt (v.drop (decL v).2).length (u ++ v.take (decL v).2).length (v.drop (decL v).2) = runesAt s.length 0 s := by
        rw [← HRS.out]
        obtain ⟨m, hm⟩ : ∃ m, v.length = m + 1 := ⟨v.length - 1, by omega⟩
        have e : runesAt v.length u.length v = (u.length, (decL v).1) :: runesAt m (u.length + (decL v).2) (v.drop (decL v).2) := by
          rw [hm, runesAt, if_neg hv]
        rw [e, runesAt_more m _ _ (v.drop (decL v).2) (by simp; omega) (Nat.le_refl _)]
        simp [Nat.min_eq_left hw2, hx]
      have HPRE := Lib.hid hpre
      have HIT := Lib.hid hit
      have HIT2 := Lib.hid hit2
      have HNV := Lib.hid hv
      clear hdec hp hit hit2 hpre hv hx
      generalize hd : decL v = d at *
      have HD := Lib.hid hd
      clear hd
      gi_wp2
      refine hR.mono ?_
      rintro e W1 (⟨rfl, hJ1, hk1⟩ | ⟨rfl, hJx1⟩)
      · have hit3 : W1.heap[W.heap.size]? = some (.stringIter ⟨s.toArray⟩ (u.length + d.2)) := hk1.same _ _ HIT2.out rfl
        have HIT3 := Lib.hid hit3
        clear hit3 hy hR hnx0
        gi_wp2
        go_roundw
        case rel =>
          refine ⟨_, u ++ v.take d.2, v.drop d.2, ?_, ?_, HPRE.out, hJ1, ?_⟩
          · rw [List.append_assoc, List.take_append_drop]; exact HUV.out
          · simp; omega
          · rw [List.length_append, List.length_take, Nat.min_eq_left hw2]; exact HIT3.out
        case measure =>
          have := HLEN.out
          simp only [World.iterPos, HIT3.out, HIT.out]
          omega
      · gi_wp2
        refine bodyPost_ret (results_none rfl _ _ _) rfl ?_
        exact ⟨⟨_, rfl⟩, .inr ⟨_, trivial, hJx1⟩⟩

theorem all_any (s : Gm.Bs) (w : World) : Calls Tryd.prog 23 #[.string ⟨s.toArray⟩] w fun e w' => e = .returned (.func (.func 30) #[] #[.pointer (some ⟨w.heap.size, 0, none⟩)]) ∧ w' = w.alloc (.cells #[.string ⟨s.toArray⟩] 9) := by
  have hmf : ∀ (fn : Fn) (first cap : Array Value) (w : World), (Instr.makeFunc fn first cap).run Tryd.prog w = .ok (.func fn first cap) w := fun _ _ _ _ => rfl
  go_enter Tryd.func23, Tryd.ntmps23
  go_wp2
  go_ret
  exact ⟨rfl, rfl⟩

/-- rune, line and column behind a character -/
def pstep (b : Gm.Bs) (p : Nat × Nat × Nat) (x : Nat × Nat) : Nat × Nat × Nat :=
  if x.2 = 10 ∨ x.2 = 13 ∧ (b.length ≤ x.1 + 1 ∨ b.getD (x.1 + 1) 0 ≠ 10) then (p.1 + 1, p.2.1 + 1, 1) else (p.1 + 1, p.2.1, p.2.2 + 1)
def placeOf (b : Gm.Bs) (n : Nat) : Nat × Nat × Nat := (runesAt n 0 (b.take n)).foldl (pstep b) (0, 1, 1)

theorem pstep_le (b : Gm.Bs) (l : List (Nat × Nat)) (p : Nat × Nat × Nat) : (l.foldl (pstep b) p).1 ≤ p.1 + l.length ∧ (l.foldl (pstep b) p).2.1 ≤ p.2.1 + l.length ∧ (l.foldl (pstep b) p).2.2 ≤ p.2.2 + l.length + 1 := by
  induction l generalizing p with
  | nil => simp
  | cons x l ih =>
    have h := ih (pstep b p x)
    have h1 : (pstep b p x).1 ≤ p.1 + 1 ∧ (pstep b p x).2.1 ≤ p.2.1 + 1 ∧ (pstep b p x).2.2 ≤ max 1 (p.2.2 + 1) := by
      unfold pstep
      split <;> simp
    simp only [List.foldl_cons, List.length_cons]
    omega

/-- what At's loop has counted behind these characters -/
def cnt (b : Gm.Bs) (pre : List Rune) : Nat × Nat × Nat := (pre.map Subtype.val).foldl (pstep b) (0, 1, 1)
theorem cnt_snoc (b : Gm.Bs) (pre : List Rune) (x : Rune) : cnt b (pre ++ [x]) = pstep b (cnt b pre) x.1 := by simp [cnt]
theorem cnt_le (b : Gm.Bs) (pre : List Rune) : (cnt b pre).1 ≤ pre.length ∧ (cnt b pre).2.1 ≤ pre.length + 1 ∧ (cnt b pre).2.2 ≤ pre.length + 2 := by
  have := pstep_le b (pre.map Subtype.val) (0, 1, 1)
  simp only [List.length_map] at this
  unfold cnt
  omega


/-- At's own cells within its loop -/
structure AtJ (w : World) (b : Gm.Bs) (ao : Option Addr) (cap at_ : Nat) (c : Nat × Nat × Nat) (V : World) : Prop where
  bx : V.cell? ⟨w.heap.size, 0, none⟩ = some (.slice ao b.length cap)
  p0 : V.cell? ⟨w.heap.size + 1 + 1, 0, none⟩ = some (.int .i64 at_)
  p1 : V.cell? ⟨w.heap.size + 1 + 1, 1, none⟩ = some (.int .i64 c.1)
  p2 : V.cell? ⟨w.heap.size + 1 + 1, 2, none⟩ = some (.int .i64 c.2.1)
  p3 : V.cell? ⟨w.heap.size + 1 + 1, 3, none⟩ = some (.int .i64 c.2.2)
  z1 : V.frozen? ⟨w.heap.size + 1 + 1, 1, none⟩ = false
  z2 : V.frozen? ⟨w.heap.size + 1 + 1, 2, none⟩ = false
  z3 : V.frozen? ⟨w.heap.size + 1 + 1, 3, none⟩ = false
  r0 : V.cell? ⟨w.heap.size + 1, 0, none⟩ = some (.int .i64 0)
  r1 : V.cell? ⟨w.heap.size + 1, 1, none⟩ = some (.int .i64 0)
  r2 : V.cell? ⟨w.heap.size + 1, 2, none⟩ = some (.int .i64 0)
  r3 : V.cell? ⟨w.heap.size + 1, 3, none⟩ = some (.int .i64 0)
  y0 : V.frozen? ⟨w.heap.size + 1, 0, none⟩ = false
  y1 : V.frozen? ⟨w.heap.size + 1, 1, none⟩ = false
  y2 : V.frozen? ⟨w.heap.size + 1, 2, none⟩ = false
  y3 : V.frozen? ⟨w.heap.size + 1, 3, none⟩ = false
theorem AtJ.s1 {w : World} {b : Gm.Bs} {ao : Option Addr} {cap at_ : Nat} {c : Nat × Nat × Nat} {V : World} (h : AtJ w b ao cap at_ c V) (n : Nat) : AtJ w b ao cap at_ (n, c.2.1, c.2.2) (V.setCell ⟨w.heap.size + 1 + 1, 1, none⟩ (.int .i64 n)) := by
  obtain ⟨bx, p0, p1, p2, p3, z1, z2, z3, r0, r1, r2, r3, y0, y1, y2, y3⟩ := h
  refine ⟨?_, ?_, ?_, ?_, ?_, ?_, ?_, ?_, ?_, ?_, ?_, ?_, ?_, ?_, ?_, ?_⟩ <;> go_simp
theorem AtJ.s2 {w : World} {b : Gm.Bs} {ao : Option Addr} {cap at_ : Nat} {c : Nat × Nat × Nat} {V : World} (h : AtJ w b ao cap at_ c V) (n : Nat) : AtJ w b ao cap at_ (c.1, n, c.2.2) (V.setCell ⟨w.heap.size + 1 + 1, 2, none⟩ (.int .i64 n)) := by
  obtain ⟨bx, p0, p1, p2, p3, z1, z2, z3, r0, r1, r2, r3, y0, y1, y2, y3⟩ := h
  refine ⟨?_, ?_, ?_, ?_, ?_, ?_, ?_, ?_, ?_, ?_, ?_, ?_, ?_, ?_, ?_, ?_⟩ <;> go_simp
theorem AtJ.s3 {w : World} {b : Gm.Bs} {ao : Option Addr} {cap at_ : Nat} {c : Nat × Nat × Nat} {V : World} (h : AtJ w b ao cap at_ c V) (n : Nat) : AtJ w b ao cap at_ (c.1, c.2.1, n) (V.setCell ⟨w.heap.size + 1 + 1, 3, none⟩ (.int .i64 n)) := by
  obtain ⟨bx, p0, p1, p2, p3, z1, z2, z3, r0, r1, r2, r3, y0, y1, y2, y3⟩ := h
  refine ⟨?_, ?_, ?_, ?_, ?_, ?_, ?_, ?_, ?_, ?_, ?_, ?_, ?_, ?_, ?_, ?_⟩ <;> go_simp
def AtI (w : World) (b : Gm.Bs) (ao : Option Addr) (cap at_ : Nat) (pre : List Rune) (V : World) : Prop := AtJ w b ao cap at_ (cnt b pre) V
/-- what a round does -/
structure AtRd (w : World) (V V' : World) : Prop where
  o : KeepsOthers V V'
  k : KeepsWalks V V'
  b : Below w.heap.size w V → Below w.heap.size w V'
theorem AtRd.set (w V : World) (k : Nat) (v : Value) : AtRd w V (V.setCell ⟨w.heap.size + 1 + 1, k, none⟩ v) := ⟨KeepsOthers.setCell _ _ _, KeepsWalks.setCell _ _ _, fun h => h.setCell (p := ⟨w.heap.size + 1 + 1, k, none⟩) (by simp; omega) _⟩
theorem AtRd.trans {w A B C : World} (h : AtRd w A B) (k : AtRd w B C) : AtRd w A C := ⟨h.o.trans k.o, h.k.trans k.k, fun x => k.b (h.b x)⟩
theorem AtI.own (w : World) (b : Gm.Bs) (ao : Option Addr) (cap at_ : Nat) : Own (AtI w b ao cap at_) := fun s A B row hs hg hr =>
  ⟨cell_kept hs.bx hg hr, cell_kept hs.p0 hg hr, cell_kept hs.p1 hg hr, cell_kept hs.p2 hg hr, cell_kept hs.p3 hg hr, (frozen_kept hs.p1 hg hr).trans hs.z1, (frozen_kept hs.p2 hg hr).trans hs.z2, (frozen_kept hs.p3 hg hr).trans hs.z3,
    cell_kept hs.r0 hg hr, cell_kept hs.r1 hg hr, cell_kept hs.r2 hg hr, cell_kept hs.r3 hg hr, (frozen_kept hs.r0 hg hr).trans hs.y0, (frozen_kept hs.r1 hg hr).trans hs.y1, (frozen_kept hs.r2 hg hr).trans hs.y2, (frozen_kept hs.r3 hg hr).trans hs.y3⟩

set_option maxRecDepth 100000 in
set_option maxHeartbeats 4000000 in
theorem At_any (b : Gm.Bs) (ao : Option Addr) (cap at_ : Nat) (w : World) (hb : BAt w ao b) (hat : at_ ≤ b.length) (hl : b.length ≤ cap) (hsm : b.length ≤ 4194304) (hcap : cap ≤ 9223372036854775807) :
    Calls Tryd.prog 12 #[.slice ao b.length cap, .int .i64 at_] w fun e w' => e = .returned (.tuple #[.agg #[.int .i64 at_, .int .i64 (placeOf b at_).1, .int .i64 (placeOf b at_).2.1, .int .i64 (placeOf b at_).2.2], .int .i64 0]) ∧ Fr S0 w w' := by
  have glt : decide ((at_ : Int) < 0) = false := by rw [decide_eq_false_iff_not]; omega
  have glen : decide (b.length < at_) = false := by rw [decide_eq_false_iff_not]; omega
  have hf3 : Fr S0 w (((w.alloc (.cells #[.slice ao b.length cap] 22)).alloc (.cells #[.int .i64 0, .int .i64 0, .int .i64 0, .int .i64 0] 39)).alloc (.cells #[.int .i64 at_, .int .i64 0, .int .i64 1, .int .i64 1] 39)) :=
    ((Fr.alloc _ _ _).trans (Fr.alloc _ _ _)).trans (Fr.alloc _ _ _)
  have hcs : (convert 22 9 (.slice ao at_ cap)).run Tryd.prog (((w.alloc (.cells #[.slice ao b.length cap] 22)).alloc (.cells #[.int .i64 0, .int .i64 0, .int .i64 0, .int .i64 0] 39)).alloc (.cells #[.int .i64 at_, .int .i64 0, .int .i64 1, .int .i64 1] 39)) =
      .ok (.string ⟨(b.take at_).toArray⟩) (((w.alloc (.cells #[.slice ao b.length cap] 22)).alloc (.cells #[.int .i64 0, .int .i64 0, .int .i64 0, .int .i64 0] 39)).alloc (.cells #[.int .i64 at_, .int .i64 0, .int .i64 1, .int .i64 1] 39)) := by
    have hbt : BAt w ao (b.take at_) := by
      rcases hb with rfl | ⟨bk, off, rfl, hc⟩
      · exact .inl (by simp)
      · refine .inr ⟨bk, off, rfl, fun j hj => ?_⟩
        have hj' : j < at_ := by simp at hj; omega
        rw [hc j (by omega)]
        simp [List.getD, List.getElem?_take_of_lt hj']
    have := conv_str (hbt.fr hf3 (fun _ _ h => h)) cap
    rw [show (b.take at_).length = at_ by simp; omega] at this
    exact this
  have HB := Lib.hid hb
  clear hb hf3
  refine (callsIn_wide (n := 5)).1 ?_
  refine callsIn_of_wp_marks Tryd.func12 rfl trivial ?_ rfl
  simp only [Tryd.ntmps12, List.size_toArray, List.length_cons, List.length_nil, Nat.reduceAdd, Nat.reduceSub, Array.replicate_succ, Array.replicate_zero, List.push_toArray, List.append_toArray, List.nil_append, List.cons_append]
  gi_wp2_with (refine ⟨trivial, ?_⟩; gi_at_call 23; refine (callsIn_wide.2 (all_any _ _)).mono ?_; rintro e w' ⟨rfl, rfl⟩)
  have hI0 : AtI w b ao cap at_ [] ((((w.alloc (.cells #[.slice ao b.length cap] 22)).alloc (.cells #[.int .i64 0, .int .i64 0, .int .i64 0, .int .i64 0] 39)).alloc (.cells #[.int .i64 at_, .int .i64 0, .int .i64 1, .int .i64 1] 39)).alloc (.cells #[.string ⟨(b.take at_).toArray⟩] 9)) := by
    refine ⟨?_, ?_, ?_, ?_, ?_, ?_, ?_, ?_, ?_, ?_, ?_, ?_, ?_, ?_, ?_, ?_⟩ <;> (go_simp; try rfl)
  have hstr : ((((w.alloc (.cells #[.slice ao b.length cap] 22)).alloc (.cells #[.int .i64 0, .int .i64 0, .int .i64 0, .int .i64 0] 39)).alloc (.cells #[.int .i64 at_, .int .i64 0, .int .i64 1, .int .i64 1] 39)).alloc (.cells #[.string ⟨(b.take at_).toArray⟩] 9)).cell? ⟨w.heap.size + 1 + 1 + 1, 0, none⟩ = some (.string ⟨(b.take at_).toArray⟩) := by go_simp
  have hbel : Below w.heap.size w ((((w.alloc (.cells #[.slice ao b.length cap] 22)).alloc (.cells #[.int .i64 0, .int .i64 0, .int .i64 0, .int .i64 0] 39)).alloc (.cells #[.int .i64 at_, .int .i64 0, .int .i64 1, .int .i64 1] 39)).alloc (.cells #[.string ⟨(b.take at_).toArray⟩] 9)) := ((((Below.refl _ w).alloc (Nat.le_refl _) _).alloc (by simp) _).alloc (by simp; omega) _).alloc (by simp; omega) _
  have hsz4 : ((((w.alloc (.cells #[.slice ao b.length cap] 22)).alloc (.cells #[.int .i64 0, .int .i64 0, .int .i64 0, .int .i64 0] 39)).alloc (.cells #[.int .i64 at_, .int .i64 0, .int .i64 1, .int .i64 1] 39)).alloc (.cells #[.string ⟨(b.take at_).toArray⟩] 9)).heap.size = w.heap.size + 4 := by simp
  generalize ((((w.alloc (.cells #[.slice ao b.length cap] 22)).alloc (.cells #[.int .i64 0, .int .i64 0, .int .i64 0, .int .i64 0] 39)).alloc (.cells #[.int .i64 at_, .int .i64 0, .int .i64 1, .int .i64 1] 39)).alloc (.cells #[.string ⟨(b.take at_).toArray⟩] 9)) = W at *
  refine wpIn_rangeFunc_ownF (n := 5) rfl (by omega) (gf := 30) (lb := #[.pointer (some ⟨w.heap.size + 1 + 1 + 1, 0, none⟩)]) rfl trivial (enters_of Tryd.func30 (by kernel_rfl) rfl)
    (all1_stops (b.take at_) (by simp; omega) 4 (by omega) _ W hstr) walksK_t walksK_b (Below.refl _ _) (fun _ => rfl)
    (fun pre V => AtI w b ao cap at_ pre V ∧ Below w.heap.size w V) (fun _ _ _ => False)
    (OwnFrom.and (Own.from (AtI.own w b ao cap at_) _) (ownFrom_below (Nat.le_refl _) (by omega)))
    (fun _ _ _ _ _ hs _ _ => hs) ⟨hI0, hbel⟩
    (fun x => { tmps := #[.slice ao b.length cap, .int .i64 at_, .pointer (some ⟨w.heap.size, 0, none⟩), undef, .pointer (some ⟨w.heap.size + 1, 0, none⟩), .int .i64 0, .pointer (some ⟨w.heap.size + 1 + 1, 0, none⟩), .int .i64 x.1.1, .int .i32 x.1.2, .int .i64 at_, .bool false, .bool false, .int .i64 at_,
      .slice ao b.length cap, .int .i64 b.length, .bool false, .bool false, undef, .int .i64 at_, .agg #[.int .i64 at_, .int .i64 0, .int .i64 1, .int .i64 1], .slice ao b.length cap, .int .i64 at_, .slice ao at_ cap, .string ⟨(b.take at_).toArray⟩,
      .func (.func 30) #[] #[.pointer (some ⟨w.heap.size + 1 + 1 + 1, 0, none⟩)], .int .i64 x.1.1, .int .i32 x.1.2,
      undef, undef, undef, undef, undef, undef, undef, undef, undef, undef, undef, undef, undef, undef, undef, undef, undef, undef, undef, undef, undef, undef, undef, undef, undef, undef, undef, undef, undef, undef, undef, undef, undef, undef, undef], defers := [] }) ?assign ?body ?done ?stop
  case assign =>
    intro l x V K hK
    gi_wp2
    exact hK
  case body =>
    rintro l pre ⟨⟨i, rr⟩, hx1, hx2⟩ V ⟨hI, hB⟩ hlen
    have hcl := cnt_le b pre
    have hln : pre.length < 4194304 := by have : (b.take at_).length ≤ b.length := by simp; omega
                                          omega
    have hsn := cnt_snoc b pre ⟨(i, rr), hx1, hx2⟩
    have HI := Lib.hid hI
    have HBB := Lib.hid hB
    obtain ⟨bx, p0, p1, p2, p3, z1, z2, z3, r0, r1, r2, r3, y0, y1, y2, y3⟩ := hI
    simp only at hx1 hx2 hsn
    have HSN := Lib.hid hsn
    clear hsn
    unfold AtI at HI
    generalize hc : cnt b pre = c at *
    obtain ⟨c1, c2, c3⟩ := c
    have HC := Lib.hid hc
    simp only at p1 p2 p3 hcl
    have hbyte : i + 1 < b.length → ∃ bk off, ao = some ⟨bk, off, none⟩ ∧ bk < w.heap.size ∧ V.cell? ⟨bk, off + (i + 1), none⟩ = some (.int .u8 (b.getD (i + 1) 0).toNat) := by
      intro h
      rcases HB.out with e | ⟨bk, off, e, hcc⟩
      · rw [e] at h; simp at h
      · refine ⟨bk, off, e, lt_of_cell (hcc (i + 1) h), ?_⟩
        rw [hB.cell (p := ⟨bk, off + (i + 1), none⟩) (lt_of_cell (hcc (i + 1) h))]
        exact hcc (i + 1) h
    have HBY := Lib.hid hbyte
    clear hc hI0 hstr hcs hbel hsz4 hbyte hB hsm
    by_cases h10 : rr = 10
    · subst h10
      have hfin : cnt b (pre ++ [⟨(i, 10), hx1, hx2⟩]) = (c1 + 1, c2 + 1, 1) := by rw [HSN.out, pstep, if_pos (.inl rfl)]
      have HFIN := Lib.hid hfin
      clear hfin
      gi_wp2
      try any_goals (exfalso; have hu := ‹some undef = some (Value.bool _)›; simp [undef] at hu; done)
      have hr := (((AtRd.set w V 1 (.int .i64 (c1 + 1 : Nat))).trans (AtRd.set w _ 3 (.int .i64 (c3 + 1 : Nat)))).trans (AtRd.set w _ 2 (.int .i64 (c2 + 1 : Nat)))).trans (AtRd.set w _ 3 (.int .i64 (1 : Nat)))
      have hj := (((HI.out.s1 (c1 + 1)).s3 (c3 + 1)).s2 (c2 + 1)).s3 1
      exact ⟨hr.o, hr.k, by unfold AtI; rw [HFIN.out]; exact hj, hr.b HBB.out⟩
    · have g10 : ((rr : Int) == 10) = false := by rw [beq_eq_false_iff_ne]; omega
      by_cases h13 : rr = 13
      · subst h13
        by_cases hend : b.length ≤ i + 1
        · have hfin : cnt b (pre ++ [⟨(i, 13), hx1, hx2⟩]) = (c1 + 1, c2 + 1, 1) := by rw [HSN.out, pstep, if_pos (.inr ⟨rfl, .inl hend⟩)]
          have HFIN := Lib.hid hfin
          have gge : decide ((i : Int) + 1 ≥ (b.length : Int)) = true := by rw [decide_eq_true_iff]; omega
          have gge2 : decide (b.length ≤ i + 1) = true := by rw [decide_eq_true_iff]; omega
          clear hfin h10
          gi_wp2
          try any_goals (exfalso; have hu := ‹some undef = some (Value.bool _)›; simp [undef] at hu; done)
          have hr := (((AtRd.set w V 1 (.int .i64 (c1 + 1 : Nat))).trans (AtRd.set w _ 3 (.int .i64 (c3 + 1 : Nat)))).trans (AtRd.set w _ 2 (.int .i64 (c2 + 1 : Nat)))).trans (AtRd.set w _ 3 (.int .i64 (1 : Nat)))
          have hj := (((HI.out.s1 (c1 + 1)).s3 (c3 + 1)).s2 (c2 + 1)).s3 1
          exact ⟨hr.o, hr.k, by unfold AtI; rw [HFIN.out]; exact hj, hr.b HBB.out⟩
        · have hlt : i + 1 < b.length := by omega
          have gge : decide ((i : Int) + 1 ≥ (b.length : Int)) = false := by rw [decide_eq_false_iff_not]; omega
          have gge2 : decide (b.length ≤ i + 1) = false := by rw [decide_eq_false_iff_not]; omega
          obtain ⟨bk, off, hao, hbk, hcc⟩ := HBY.out hlt
          have hne1 : ¬ bk = w.heap.size + 1 + 1 := by omega
          have hne2 : ¬ w.heap.size + 1 + 1 = bk := by omega
          have hix : ((i : Int) + 1).toNat = i + 1 := by omega
          subst hao
          by_cases hb10 : b.getD (i + 1) 0 = 10
          · have hfin : cnt b (pre ++ [⟨(i, 13), hx1, hx2⟩]) = (c1 + 1, c2, c3 + 1) := by
              rw [HSN.out, pstep, if_neg]
              rintro (h | ⟨_, h | h⟩)
              · exact absurd h (by simp)
              · exact hend h
              · exact h hb10
            have HFIN := Lib.hid hfin
            rw [hb10] at hcc
            clear hfin h10 hb10 hend
            gi_wp2
            try any_goals (exfalso; have hu := ‹some undef = some (Value.bool _)›; simp [undef] at hu; done)
            have hr := (AtRd.set w V 1 (.int .i64 (c1 + 1 : Nat))).trans (AtRd.set w _ 3 (.int .i64 (c3 + 1 : Nat)))
            have hj := (HI.out.s1 (c1 + 1)).s3 (c3 + 1)
            exact ⟨hr.o, hr.k, by unfold AtI; rw [HFIN.out]; exact hj, hr.b HBB.out⟩
          · have hfin : cnt b (pre ++ [⟨(i, 13), hx1, hx2⟩]) = (c1 + 1, c2 + 1, 1) := by rw [HSN.out, pstep, if_pos (.inr ⟨rfl, .inr hb10⟩)]
            have HFIN := Lib.hid hfin
            have gb : (((b.getD (i + 1) 0).toNat : Int) != 10) = true := by
              rw [bne_iff_ne]
              intro e
              apply hb10
              rw [← UInt8.toNat_inj]
              show _ = 10
              omega
            generalize b.getD (i + 1) 0 = y at hcc gb
            clear hfin h10 hb10 hend
            gi_wp2
            try any_goals (exfalso; have hu := ‹some undef = some (Value.bool _)›; simp [undef] at hu; done)
            have hr := (((AtRd.set w V 1 (.int .i64 (c1 + 1 : Nat))).trans (AtRd.set w _ 3 (.int .i64 (c3 + 1 : Nat)))).trans (AtRd.set w _ 2 (.int .i64 (c2 + 1 : Nat)))).trans (AtRd.set w _ 3 (.int .i64 (1 : Nat)))
            have hj := (((HI.out.s1 (c1 + 1)).s3 (c3 + 1)).s2 (c2 + 1)).s3 1
            exact ⟨hr.o, hr.k, by unfold AtI; rw [HFIN.out]; exact hj, hr.b HBB.out⟩
      · have g13 : ((rr : Int) == 13) = false := by rw [beq_eq_false_iff_ne]; omega
        have hfin : cnt b (pre ++ [⟨(i, rr), hx1, hx2⟩]) = (c1 + 1, c2, c3 + 1) := by
          rw [HSN.out, pstep, if_neg]
          rintro (h | ⟨h, _⟩)
          · exact h10 h
          · exact h13 h
        have HFIN := Lib.hid hfin
        clear hfin h10 h13
        gi_wp2
        try any_goals (exfalso; have hu := ‹some undef = some (Value.bool _)›; simp [undef] at hu; done)
        have hr := (AtRd.set w V 1 (.int .i64 (c1 + 1 : Nat))).trans (AtRd.set w _ 3 (.int .i64 (c3 + 1 : Nat)))
        have hj := (HI.out.s1 (c1 + 1)).s3 (c3 + 1)
        exact ⟨hr.o, hr.k, by unfold AtI; rw [HFIN.out]; exact hj, hr.b HBB.out⟩
  case done =>
    rintro D xs V hD hS ⟨hI, hB⟩ hK
    obtain ⟨bx, p0, p1, p2, p3, z1, z2, z3, r0, r1, r2, r3, y0, y1, y2, y3⟩ := hI
    have hcnt : cnt b xs = placeOf b at_ := by
      unfold cnt placeOf
      rw [hS, show (b.take at_).length = at_ by simp; omega]
    obtain ⟨c, hc⟩ : ∃ c, placeOf b at_ = c := ⟨_, rfl⟩
    rw [hcnt, hc] at p1 p2 p3
    have HC := Lib.hid hc
    clear hcnt hS hc
    gi_wp2
    have hko : KeepsOthers V ((((V.setCell ⟨w.heap.size + 1, 0, none⟩ (.int .i64 at_)).setCell ⟨w.heap.size + 1, 1, none⟩ (.int .i64 c.1)).setCell ⟨w.heap.size + 1, 2, none⟩ (.int .i64 c.2.1)).setCell ⟨w.heap.size + 1, 3, none⟩ (.int .i64 c.2.2)) :=
      (((KeepsOthers.setCell _ _ _).trans (KeepsOthers.setCell _ _ _)).trans (KeepsOthers.setCell _ _ _)).trans (KeepsOthers.setCell _ _ _)
    have hbo : Below w.heap.size w ((((V.setCell ⟨w.heap.size + 1, 0, none⟩ (.int .i64 at_)).setCell ⟨w.heap.size + 1, 1, none⟩ (.int .i64 c.1)).setCell ⟨w.heap.size + 1, 2, none⟩ (.int .i64 c.2.1)).setCell ⟨w.heap.size + 1, 3, none⟩ (.int .i64 c.2.2)) :=
      (((hB.setCell (p := ⟨w.heap.size + 1, 0, none⟩) (by simp) _).setCell (p := ⟨w.heap.size + 1, 1, none⟩) (by simp) _).setCell (p := ⟨w.heap.size + 1, 2, none⟩) (by simp) _).setCell (p := ⟨w.heap.size + 1, 3, none⟩) (by simp) _
    have e0 : ((((V.setCell ⟨w.heap.size + 1, 0, none⟩ (.int .i64 at_)).setCell ⟨w.heap.size + 1, 1, none⟩ (.int .i64 c.1)).setCell ⟨w.heap.size + 1, 2, none⟩ (.int .i64 c.2.1)).setCell ⟨w.heap.size + 1, 3, none⟩ (.int .i64 c.2.2)).cell? ⟨w.heap.size + 1, 0, none⟩ = some (.int .i64 at_) := by go_simp
    have e1 : ((((V.setCell ⟨w.heap.size + 1, 0, none⟩ (.int .i64 at_)).setCell ⟨w.heap.size + 1, 1, none⟩ (.int .i64 c.1)).setCell ⟨w.heap.size + 1, 2, none⟩ (.int .i64 c.2.1)).setCell ⟨w.heap.size + 1, 3, none⟩ (.int .i64 c.2.2)).cell? ⟨w.heap.size + 1, 1, none⟩ = some (.int .i64 c.1) := by go_simp
    have e2 : ((((V.setCell ⟨w.heap.size + 1, 0, none⟩ (.int .i64 at_)).setCell ⟨w.heap.size + 1, 1, none⟩ (.int .i64 c.1)).setCell ⟨w.heap.size + 1, 2, none⟩ (.int .i64 c.2.1)).setCell ⟨w.heap.size + 1, 3, none⟩ (.int .i64 c.2.2)).cell? ⟨w.heap.size + 1, 2, none⟩ = some (.int .i64 c.2.1) := by go_simp
    have e3 : ((((V.setCell ⟨w.heap.size + 1, 0, none⟩ (.int .i64 at_)).setCell ⟨w.heap.size + 1, 1, none⟩ (.int .i64 c.1)).setCell ⟨w.heap.size + 1, 2, none⟩ (.int .i64 c.2.1)).setCell ⟨w.heap.size + 1, 3, none⟩ (.int .i64 c.2.2)).cell? ⟨w.heap.size + 1, 3, none⟩ = some (.int .i64 c.2.2) := by go_simp
    generalize (((V.setCell ⟨w.heap.size + 1, 0, none⟩ (.int .i64 at_)).setCell ⟨w.heap.size + 1, 1, none⟩ (.int .i64 c.1)).setCell ⟨w.heap.size + 1, 2, none⟩ (.int .i64 c.2.1)).setCell ⟨w.heap.size + 1, 3, none⟩ (.int .i64 c.2.2) = V4 at *
    have hK' := hko.same D _ hK rfl
    refine ⟨by simp, .inl ⟨_, _, rfl, run_takeDeferred hK', ?_⟩⟩
    have hrow : ∀ r, some D = some r → ∃ o : Obj, V4.heap[r]? = some o ∧ o.isCells = false := fun r e => by cases e; exact ⟨_, hK', rfl⟩
    have k0 := cell_kept e0 (grownBy_putObj' V4 D (.deferred none)) hrow
    have k1 := cell_kept e1 (grownBy_putObj' V4 D (.deferred none)) hrow
    have k2 := cell_kept e2 (grownBy_putObj' V4 D (.deferred none)) hrow
    have k3 := cell_kept e3 (grownBy_putObj' V4 D (.deferred none)) hrow
    have hbp : Below w.heap.size w (V4.putObj D (.deferred none)) := hbo.grown (grownBy_putObj' V4 D (.deferred none)) (by have := hbo.size; exact this) (fun r e => by cases e; omega)
    rw [HC.out]
    refine ⟨.tuple #[.agg #[.int .i64 at_, .int .i64 c.1, .int .i64 c.2.1, .int .i64 c.2.2], .int .i64 0], ?_, rfl, Fr.of_below hbp⟩
    simp [results, Tryd.results12, go_sem, k0, k1, k2, k3]
  case stop =>
    rintro D c pre V _ _ h _
    exact h.elim
end Go.Proofs.YtghhakilkmbpdaaDoor
