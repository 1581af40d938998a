/- Walks: read, its deferred function. -/
import Derived.Test.YtghhakilkmbpdaaDoorWContent
import Derived.Recover
import Derived.RangeFuncBox
namespace Go.Proofs.YtghhakilkmbpdaaDoor
open Go Go.RowKit

set_option maxRecDepth 100000 in
set_option maxHeartbeats 800000 in
theorem catch_any (p : Nat) (wr : Int) (rest : ByteArray) (x : Value) (y : Value) (w : World) (hc : w.cell? ⟨p, 0, none⟩ = some x) (hc1 : w.cell? ⟨p, 1, none⟩ = some y)
    (hz : w.frozen? ⟨p, 0, none⟩ = false) (hz1 : w.frozen? ⟨p, 1, none⟩ = false) :
    CallsD Tryd.prog 15 #[.pointer (some ⟨p, 0, none⟩)] (.panicking [{ v := .iface 36 (.agg #[.int .i64 wr, .string rest]), recovered := false }]) w fun e u' w' =>
      e = .returned (.tuple #[]) ∧ u' = .panicking [{ v := .iface 36 (.agg #[.int .i64 wr, .string rest]), recovered := true }] ∧
      w' = ((w.setCell ⟨p, 0, none⟩ (.int .i64 wr)).setCell ⟨p, 1, none⟩ (.string rest)).alloc (.cells #[.int .i64 wr, .string rest] 36) := by
  have hp : p < w.heap.size := lt_of_cell hc
  have hta : ∀ W : World, (Instr.typeAssert (.iface 36 (.agg #[.int .i64 wr, .string rest])) 20 36 true).run Tryd.prog W = .ok (.tuple #[.agg #[.int .i64 wr, .string rest], .bool true]) W := fun W => by kernel_rfl
  refine callsD_of_wpS Tryd.func15 rfl fun c₀ cs hu => ?_
  simp only [Tryd.ntmps15, List.size_toArray, List.length_cons, List.length_nil, Nat.reduceAdd, Nat.reduceSub, Array.replicate_succ, Array.replicate_zero, List.push_toArray, List.append_toArray, List.nil_append, List.cons_append]
  apply wpS_seq
  apply wpS_region
  simp [wpOpsS, go_sem, recoverD, hu, Exit.thenS]
  refine wpS_of_wp ?_
  clear hu
  go_wp2_with fail
  simp [bodyPostS, results, Tryd.results15]

/-- what read comes to -/
def ReadIs (b : Gm.Bs) (wr : Int) (rest : Gm.Bs) : Prop :=
  (Gm.K.init.run b = none ∧ rest = [] ∧ ∃ (n : Nat) (s : Gm.K) (x : UInt8), wr = n ∧ AtK b n s ∧ b[n]? = some x ∧ s.step x = none) ∨ (wr = -1 ∧ ∃ s, Gm.K.init.run b = some s ∧ rest = s.rest)

theorem Halts.is {b : Gm.Bs} {e : Ending} (h : Halts b e) : ∃ wr rest, e = stopE wr rest ∧ ReadIs b wr rest := by
  rcases h with ⟨n, s, x, he, ha, hx, hs⟩ | ⟨s, hr, he⟩
  · refine ⟨_, _, he, .inl ⟨?_, rfl, n, s, x, rfl, ha, hx, hs⟩⟩
    have hl := (List.getElem?_eq_some_iff.1 hx)
    have e : b = b.take n ++ (x :: b.drop (n + 1)) := by
      rw [← hl.2, ← List.drop_eq_getElem_cons hl.1, List.take_append_drop]
    rw [e, Gm.run_append, ha.2]
    simp only [Option.bind_some, Gm.K.run, hs]
  · exact ⟨_, _, he, .inr ⟨rfl, s, hr, rfl⟩⟩

theorem stopE_inj {a b : Int} {x y : Gm.Bs} (h : stopE a x = stopE b y) : a = b ∧ x = y := by
  unfold stopE at h
  simp only [Ending.panicked.injEq, List.cons.injEq, and_true, PanicEntry.mk.injEq, Value.iface.injEq, true_and, Value.agg.injEq] at h
  have h1 := congrArg (fun l : Array Value => l[0]?) h
  have h2 := congrArg (fun l : Array Value => l[1]?) h
  simp at h1 h2
  exact ⟨h1, h2⟩
theorem Halts.rd {b : Gm.Bs} {wr : Int} {rest : Gm.Bs} (h : Halts b (stopE wr rest)) : ReadIs b wr rest := by
  obtain ⟨wr', rest', he, hr⟩ := h.is
  obtain ⟨rfl, rfl⟩ := stopE_inj he
  exact hr

/-- behind a panic: the deferred function takes it up, and read answers it -/
theorem read_door {b : Gm.Bs} {w W0 W : World} {wr : Int} {rest : Gm.Bs} {tmps : Array Value} (hbox : W0.heap[w.heap.size]? = some (.cells #[.int .i64 0, .string ⟨#[]⟩] 36 (0, 0))) (hf0 : Fr S0 w W0) (hf : Fr (above (w.heap.size + 1)) W0 W)
    (ht : tmps.getD 2 undef = .pointer (some ⟨w.heap.size, 0, none⟩)) (h : Halts b (stopE wr rest)) :
    Leaves Tryd.prog Tryd.f11 tmps (fun e w' => ∃ wr rest, e = .returned (.agg #[.int .i64 wr, .string ⟨rest.toArray⟩]) ∧ ReadIs b wr rest ∧ Fr S0 w w')
      [{ target := .fn (.func 15) #[.pointer (some ⟨w.heap.size, 0, none⟩)], args := #[] }] (.panicking [{ v := .iface 36 (.agg #[.int .i64 wr, .string ⟨rest.toArray⟩]), recovered := false }]) W := by
  have hsz : w.heap.size < W0.heap.size := (Array.getElem?_eq_some_iff.1 hbox).1
  have hbW : W.heap[w.heap.size]? = some (.cells #[.int .i64 0, .string ⟨#[]⟩] 36 (0, 0)) := by
    rw [hf.block _ hsz (fun e => by unfold above at e; omega)]
    exact hbox
  have c0 : W.cell? ⟨w.heap.size, 0, none⟩ = some (.int .i64 0) := by unfold World.cell?; rw [hbW]; rfl
  have c1 : W.cell? ⟨w.heap.size, 1, none⟩ = some (.string ⟨#[]⟩) := by unfold World.cell?; rw [hbW]; rfl
  have z0 : W.frozen? ⟨w.heap.size, 0, none⟩ = false := by unfold World.frozen?; rw [hbW]; simp
  have z1 : W.frozen? ⟨w.heap.size, 1, none⟩ = false := by unfold World.frozen?; rw [hbW]; simp
  refine leaves_cons (f := 15) (args := #[.pointer (some ⟨w.heap.size, 0, none⟩)]) (by simp) (by simp [go_sem]) ?_
  refine (catch_any w.heap.size wr ⟨rest.toArray⟩ _ _ W c0 c1 z0 z1).mono ?_
  rintro e u' w'' ⟨rfl, rfl, rfl⟩
  have hsW : w.heap.size < W.heap.size := Nat.lt_of_lt_of_le hsz hf.size
  have hfr : Fr S0 w (((W.setCell ⟨w.heap.size, 0, none⟩ (.int .i64 wr)).setCell ⟨w.heap.size, 1, none⟩ (.string ⟨rest.toArray⟩)).alloc (.cells #[.int .i64 wr, .string ⟨rest.toArray⟩] 36)) := by
    have h1 : Fr S0 w W := ⟨hf.os.trans hf0.os, hf.tape.trans hf0.tape, hf.output.trans hf0.output, Nat.le_trans hf0.size hf.size, fun k hk _ => (hf.block k (Nat.lt_of_lt_of_le hk hf0.size) (fun e => by unfold above at e; omega)).trans (hf0.block k hk (fun h => h))⟩
    have h2 : Fr S0 w (W.setCell ⟨w.heap.size, 0, none⟩ (.int .i64 wr)) := Fr.of_below (h1.below.setCell (p := ⟨w.heap.size, 0, none⟩) (Nat.le_refl _) _)
    have h3 : Fr S0 w ((W.setCell ⟨w.heap.size, 0, none⟩ (.int .i64 wr)).setCell ⟨w.heap.size, 1, none⟩ (.string ⟨rest.toArray⟩)) := Fr.of_below (h2.below.setCell (p := ⟨w.heap.size, 1, none⟩) (Nat.le_refl _) _)
    exact h3.trans (Fr.alloc _ _ _)
  have ht' : tmps[2]?.getD undef = .pointer (some ⟨w.heap.size, 0, none⟩) := by
    rw [← ht]
    simp
  have hb2 : ((W.setCell ⟨w.heap.size, 0, none⟩ (.int .i64 wr)).setCell ⟨w.heap.size, 1, none⟩ (.string ⟨rest.toArray⟩)).heap[w.heap.size]? = some (.cells #[.int .i64 wr, .string ⟨rest.toArray⟩] 36 (0, 0)) := by
    simp only [World.setCell, Array.getElem?_modify, hbW, if_true, Option.map_some]
    rfl
  have hb3 : (((W.setCell ⟨w.heap.size, 0, none⟩ (.int .i64 wr)).setCell ⟨w.heap.size, 1, none⟩ (.string ⟨rest.toArray⟩)).alloc (.cells #[.int .i64 wr, .string ⟨rest.toArray⟩] 36)).heap[w.heap.size]? = some (.cells #[.int .i64 wr, .string ⟨rest.toArray⟩] 36 (0, 0)) :=
    (Below.heap_alloc _ _ _ (Array.getElem?_eq_some_iff.1 hb2).1).trans hb2
  clear hb2 c0 c1 z0 z1 hbW hf hf0 hbox hsW hsz
  generalize ((W.setCell ⟨w.heap.size, 0, none⟩ (.int .i64 wr)).setCell ⟨w.heap.size, 1, none⟩ (.string ⟨rest.toArray⟩)).alloc (.cells #[.int .i64 wr, .string ⟨rest.toArray⟩] 36) = FW at *
  have c0 : FW.cell? ⟨w.heap.size, 0, none⟩ = some (.int .i64 wr) := by unfold World.cell?; rw [hb3]; rfl
  have c1 : FW.cell? ⟨w.heap.size, 1, none⟩ = some (.string ⟨rest.toArray⟩) := by unfold World.cell?; rw [hb3]; rfl
  simp [Leaves, settle, results, Tryd.results11, go_sem, c0, c1, ht']
  exact ⟨_, rest, ⟨rfl, rfl⟩, h.rd, hfr⟩

theorem between_blank {s : Gm.K} {m : Nat} (hst : s.st = .between m) (hp : s.pend = []) (ho : s.opn = []) {x : UInt8} (hx : Gm.blank x = true) : s.step x = some s := by
  have hl := (Gm.blank_lt hx).1
  have h60 : x ≠ 60 := by
    rintro rfl
    exact absurd hx (by decide)
  rw [Gm.step_ascii (by rw [hst]; simp) hp hl]
  simp [Gm.K.ascii, hst, ho, hx, h60]
theorem between_bad {s : Gm.K} {m : Nat} (hst : s.st = .between m) (hp : s.pend = []) (ho : s.opn = []) {x : UInt8} (hx : Gm.blank x = false) (h60 : x ≠ 60) : s.step x = none := by
  by_cases hx8 : x.toNat < 128
  · rw [Gm.step_ascii (by rw [hst]; simp) hp hx8]
    simp [Gm.K.ascii, hst, ho, hx, h60]
  · rw [Gm.step_pend (by rw [hst]; simp) (by simp [hx8])]
    simp [Gm.K.cls, hst, ho]

set_option maxRecDepth 100000 in
set_option maxHeartbeats 4000000 in
theorem read_any (b : Gm.Bs) (ao : Option Addr) (cap : Nat) (w : World) (h : Env w.heap.size w) (hb : BAt w ao b) (hlow : ∀ a, ao = some a → a.block < w.heap.size) (hl : b.length ≤ cap) (hsm : b.length ≤ 4194304) (hcap : cap ≤ 9223372036854775807) :
    Calls Tryd.prog 11 #[.slice ao b.length cap] w fun e w' => ∃ wr rest, e = .returned (.agg #[.int .i64 wr, .string ⟨rest.toArray⟩]) ∧ ReadIs b wr rest ∧ Fr S0 w w' := by
  have hmf : ∀ (fn : Fn) (first cap : Array Value) (w : World), (Instr.makeFunc fn first cap).run Tryd.prog w = .ok (.func fn first cap) w := fun _ _ _ _ => rfl
  have HH := Lib.hid h
  have HB := Lib.hid hb
  have HLOW := Lib.hid hlow
  clear h hb hlow
  go_enter_defers Tryd.func11, Tryd.ntmps11
  go_wp2_with fail
  have henv := HH.out
  have hrd : Rd w.heap.size ((w.alloc (.cells #[.int .i64 0, .string ⟨#[]⟩] 36)).alloc (.cells #[.slice ao b.length cap, .int .i64 0, .slice none 0 0, .bool false] 53)) (w.heap.size + 1) ⟨b, ao, cap, 0, .slice none 0 0, [], false⟩ := by
    have hf : Fr S0 w ((w.alloc (.cells #[.int .i64 0, .string ⟨#[]⟩] 36)).alloc (.cells #[.slice ao b.length cap, .int .i64 0, .slice none 0 0, .bool false] 53)) := (Fr.alloc _ _ _).trans (Fr.alloc _ _ _)
    refine ⟨henv.fr0 hf, by omega, ?_, Nat.zero_le _, hl, hsm, hcap, HB.out.fr hf (fun _ _ h => h), HLOW.out, ⟨rfl, .inl ⟨rfl, rfl⟩⟩, by simp [Gm.closing]⟩
    have := World.alloc_heap_new (w.alloc (.cells #[.int .i64 0, .string ⟨#[]⟩] 36)) (.cells #[.slice ao b.length cap, .int .i64 0, .slice none 0 0, .bool false] 53)
    rw [World.size_alloc] at this
    exact this
  have hbox : ((w.alloc (.cells #[.int .i64 0, .string ⟨#[]⟩] 36)).alloc (.cells #[.slice ao b.length cap, .int .i64 0, .slice none 0 0, .bool false] 53)).heap[w.heap.size]? = some (.cells #[.int .i64 0, .string ⟨#[]⟩] 36 (0, 0)) :=
    (Below.heap_alloc _ _ _ (by simp)).trans (World.alloc_heap_new w _)
  have hf0 : Fr S0 w ((w.alloc (.cells #[.int .i64 0, .string ⟨#[]⟩] 36)).alloc (.cells #[.slice ao b.length cap, .int .i64 0, .slice none 0 0, .bool false] 53)) := (Fr.alloc _ _ _).trans (Fr.alloc _ _ _)
  refine wp_gen (fun W => Rd w.heap.size W (w.heap.size + 1) ⟨b, ao, cap, 0, .slice none 0 0, [], false⟩ ∧ W.heap[w.heap.size]? = some (.cells #[.int .i64 0, .string ⟨#[]⟩] 36 (0, 0)) ∧ Fr S0 w W) ⟨hrd, hbox, hf0⟩ ?_
  clear hrd hbox hf0 henv
  rintro W0 ⟨hrd, hbox, hf0⟩
  have HRD := Lib.hid hrd
  have HBOX := Lib.hid hbox
  have HF0 := Lib.hid hf0
  clear hrd hbox hf0 hmf
  go_loopg [] (b.length + 1) (fun k wr => ∃ n s v m, n ≤ b.length ∧ k = b.length - n + 1 ∧ AtK b n s ∧ s.st = .between m ∧ s.pend = [] ∧ s.opn = [] ∧ Rd w.heap.size wr (w.heap.size + 1) ⟨b, ao, cap, n, v, [], s.root⟩ ∧ Fr (above (w.heap.size + 1)) W0 wr)
  case atStart => exact ⟨0, Gm.K.init, _, 0, Nat.zero_le _, rfl, ⟨Nat.zero_le _, rfl⟩, rfl, rfl, rfl, HRD.out, Fr.refl _ _⟩
  case round =>
    obtain ⟨n, s, v, m, h1, hk, hat, hst, hp, ho, hr, hf⟩ := hrel
    have HK := Lib.hid hk
    have HA := Lib.hid hat
    have HST := Lib.hid hst
    have HP := Lib.hid hp
    have HO := Lib.hid ho
    have HR := Lib.hid hr
    have HF := Lib.hid hf
    clear hk hat hst hp ho hr hf
    go_wp2_with fail
    refine (blank_any HR.out).mono ?_
    rintro e w1 ⟨n5, b1, b2, b3, b4, rfl, hr1, hf1⟩
    simp only at b1 b2 b3 b4
    have HA5 := Lib.hid (HA.out.blanks (fun x hx => between_blank HST.out HP.out HO.out hx) b1 b3)
    have HB4 := Lib.hid b4
    have HR1 := Lib.hid hr1
    have HF1 := Lib.hid (HF.out.trans hf1.above)
    clear b3 b4 hr1 hf1
    by_cases hend : n5 = b.length
    · have HE := Lib.hid hend
      clear hend
      go_wp2_with fail
      refine (ended_yes HR1.out HE.out).mono ?_
      rintro e w2 ⟨rfl, q, rfl⟩
      go_wp2_with fail
      refine (end_any (HR1.out.fr0 (Fr.drewN _ _ _)) [] (by simp)).mono ?_
      rintro e w3 ⟨rfl, hf3⟩
      have hw : Halts b (stopE (-1) ([] ++ Gm.closing [] ++ (if !s.root then [60, 65, 47, 62] else []))) := by
        refine HA5.out.ends HE.out ?_
        rw [Gm.between_rest HST.out HP.out, HO.out]
        rfl
      unfold stopE
      show bodyPostD _ _ _ _ _ _
      simp only [bodyPostD]
      exact read_door HBOX.out HF0.out (HF1.out.trans ((Fr.drewN _ _ _).trans hf3.of0)) rfl hw
    · have hlt : n5 < b.length := by omega
      have hg := getD_some hlt
      have HE := Lib.hid hend
      clear hend
      cases hi : isIt [60] b n5 with
      | false =>
        have HI := Lib.hid hi
        have hnb : Gm.blank (b.getD n5 0) = false := by rw [blank_iff, ← isIt_at hg]; exact HB4.out
        have hw := HA5.out.wrong hg (between_bad HST.out HP.out HO.out hnb (fun e => isIt_not hi hg (by rw [e]; simp)))
        have HW := Lib.hid hw
        have c1 := HR1.out.c1
        simp only at c1
        clear hi hnb hw hg
        go_wp2_with fail
        refine (ended_no HR1.out HE.out).mono ?_
        rintro e w2 ⟨rfl, q, rfl⟩
        go_wp2_with fail
        refine (is_any (HR1.out.fr0 (Fr.drewN _ _ _)) [60]).mono ?_
        simp only [HI.out]
        rintro e w3 ⟨rfl, q2, rfl⟩
        go_wp2_with fail
        refine (wrong_any _ _).mono ?_
        rintro e w4 ⟨rfl, hf4⟩
        have hw := HW.out
        unfold stopE
        show bodyPostD _ _ _ _ _ _
        simp only [bodyPostD]
        exact read_door HBOX.out HF0.out (HF1.out.trans ((Fr.drewN _ _ _).trans hf4.of0)) rfl hw
      | true =>
        have HI := Lib.hid hi
        have HG := Lib.hid (isIt_get hi)
        clear hi hg
        go_wp2_with fail
        refine (ended_no HR1.out HE.out).mono ?_
        rintro e w2 ⟨rfl, q, rfl⟩
        go_wp2_with fail
        refine (is_any (HR1.out.fr0 (Fr.drewN _ _ _)) [60]).mono ?_
        simp only [HI.out]
        rintro e w3 ⟨rfl, q2, rfl⟩
        go_wp2_with fail
        refine (markup_any (HR1.out.fr0 (Fr.drewN _ _ _)) (s := s) HST.out HP.out HA5.out HO.out rfl HG.out).mono ?_
        intro e w4 hpost
        rcases hpost with ⟨rfl, n6, s6, v6, g1, g2, g3, g4, g5, g6⟩ | ⟨g1, g2⟩
        · simp only at g1 g2 g5
          have hn6 := g5.at_le
          simp only at hn6
          have HA6 := Lib.hid g2
          have HST6 := Lib.hid g3
          have HP6 := Lib.hid g4
          have HR6 := Lib.hid g5
          have HF6 := Lib.hid ((HF1.out.trans (Fr.drewN _ _ _)).trans g6)
          clear g2 g3 g4 g5 g6
          have hn56 : n5 < n6 := g1
          go_wp2_with fail
          rename World => wo
          go_loopg [] (b.length - n6 + 1) (fun k wr => ∃ n7 s7 v7, n6 ≤ n7 ∧ n7 ≤ b.length ∧ k = b.length - n7 + 1 ∧ AtK b n7 s7 ∧ s7.st = .between 0 ∧ s7.pend = [] ∧ Rd w.heap.size wr (w.heap.size + 1) ⟨b, ao, cap, n7, v7, s7.opn, s7.root⟩ ∧ Fr (above (w.heap.size + 1)) W0 wr)
          case atStart => exact ⟨n6, s6, v6, Nat.le_refl _, hn6, rfl, HA6.out, HST6.out, HP6.out, HR6.out, HF6.out⟩
          case round =>
            obtain ⟨n7, s7, v7, d1, d2, hk7, hat7, hst7, hp7, hr7, hf7⟩ := hrel
            have HK7 := Lib.hid hk7
            have HA7 := Lib.hid hat7
            have HST7 := Lib.hid hst7
            have HP7 := Lib.hid hp7
            have HR7 := Lib.hid hr7
            have HF7 := Lib.hid hf7
            have c2 := hr7.c2
            obtain ⟨a7, cap7, hv7, hol7⟩ := hr7.ov_slice
            simp only at c2 hv7 hol7
            rw [hv7] at c2
            clear hk7 hat7 hst7 hp7 hr7 hf7 hv7
            cases ho7 : s7.opn with
            | nil =>
              rw [ho7] at c2
              simp only [List.length_nil] at c2
              have HO7 := Lib.hid ho7
              clear ho7
              go_wp2_with fail
              go_roundg (b.length - n7 + 1)
              case measure => rw [HK.out]; omega
              case rel => exact ⟨n7, s7, v7, 0, d2, rfl, HA7.out, HST7.out, HP7.out, HO7.out, (by have := HR7.out; rw [HO7.out] at this; exact this), HF7.out⟩
            | cons nm o =>
              have hpos : 0 < s7.opn.length := by rw [ho7]; simp
              have glen : decide ((s7.opn.length : Int) > 0) = true := by rw [decide_eq_true_iff]; omega
              have glen2 : decide (0 < s7.opn.length) = true := by rw [decide_eq_true_iff]; omega
              have HO7 := Lib.hid ho7
              clear ho7
              go_wp2_with fail
              refine (content_any HR7.out (s := s7) HST7.out HP7.out HA7.out rfl rfl (by simp only; rw [HO7.out]; simp)).mono ?_
              clear c2 glen glen2 hpos hol7
              intro e w8 hpost
              rcases hpost with ⟨rfl, n9, s9, v9, g1, g2, g3, g4, g5, g6⟩ | ⟨g1, g2⟩
              · simp only at g1 g2 g5
                have hn9 := g5.at_le
                simp only at hn9
                have HA9 := Lib.hid g2
                have HST9 := Lib.hid g3
                have HP9 := Lib.hid g4
                have HR9 := Lib.hid g5
                have HF9 := Lib.hid (HF7.out.trans g6)
                clear g2 g3 g4 g5 g6
                go_wp2_with fail
                go_roundg (b.length - n9 + 1)
                case measure => rw [HK7.out]; omega
                case rel => exact ⟨n9, s9, v9, by omega, hn9, rfl, HA9.out, HST9.out, HP9.out, HR9.out, HF9.out⟩
              · obtain ⟨a1, a2, rfl⟩ := g1.form
                unfold stopE
                show bodyPostD _ _ _ _ _ _
                simp only [bodyPostD]
                exact read_door HBOX.out HF0.out (HF7.out.trans g2) rfl g1
        · obtain ⟨a1, a2, rfl⟩ := g1.form
          unfold stopE
          show bodyPostD _ _ _ _ _ _
          simp only [bodyPostD]
          exact read_door HBOX.out HF0.out ((HF1.out.trans (Fr.drewN _ _ _)).trans g2) rfl g1
end Go.Proofs.YtghhakilkmbpdaaDoor
