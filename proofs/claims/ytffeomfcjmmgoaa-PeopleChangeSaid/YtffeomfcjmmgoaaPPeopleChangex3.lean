-- Printed by a program of this session (xprint.py), which runs the kit's print and takes some contracts from texts of this session.
import Derived.Test.YtffeomfcjmmgoaaPPeopleChangex0
import Derived.Test.YtffeomfcjmmgoaaPPeopleChangex2
namespace Go.Proofs.Ytffeomfcjmmgoaa.PPeopleChange
open Go.RowKit Go.Proofs.YtffeomfcjmmgoaaW.PrintWords Go.Proofs.YtffeomfcjmmgoaaW.PrintLast Go.Proofs.YtffeomfcjmmgoaaW.PrintMore
attribute [local go_sem] max2_int min2_int max_two min_two max_three min_three max_four min_four   -- for this text's walks alone
set_option linter.unusedVariables false
set_option linter.unusedSimpArgs false

/-! ### colloquyref15_May: function 17 -/
mutual
def colloquyref15_May.j0 : Nat → Bool → Int → Int → List Int → Option (Bool)
  | 0, _, _, _, _ => none
  | k + 1, x24, x141000, x141001, x141002 => if x24 = true then (some false) else (colloquyref15_May.l0 k 0 x141000 x141001 x141002)
def colloquyref15_May.l0 : Nat → Int → Int → Int → List Int → Option (Bool)
  | 0, _, _, _, _ => none
  | k + 1, x3, x141000, x141001, x141002 => if x3 < (x141002.length : Int) then (if 0 ≤ x3 then ((colloquyref15_user.f (rd x141002 x3)).bind fun t142 => (if t142 = true then (if x3 > 0 then (if 0 ≤ (wrap64 (x3 - 1)) then (if (wrap64 (x3 - 1)) < (x141002.length : Int) then (if (rd x141002 x3) ≤ (rd x141002 (wrap64 (x3 - 1))) then (some false) else (colloquyref15_May.l0 k (wrap64 (x3 + 1)) x141000 x141001 x141002)) else (none)) else (none)) else (colloquyref15_May.l0 k (wrap64 (x3 + 1)) x141000 x141001 x141002)) else (some false))) else (none)) else ((colloquyref15_has.f k x141002 x141001).bind fun t145 => (some t145))
end
def colloquyref15_May.f (k : Nat) (a0_0 : Int) (a0_1 : Int) (l0_2 : List Int) : Option (Bool) := if a0_0 < 1 then (colloquyref15_May.j0 k true a0_0 a0_1 l0_2) else (if a0_0 > 1048576 then (colloquyref15_May.j0 k true a0_0 a0_1 l0_2) else (if (l0_2.length : Int) < 1 then (colloquyref15_May.j0 k true a0_0 a0_1 l0_2) else (colloquyref15_May.j0 k (decide ((l0_2.length : Int) > 16)) a0_0 a0_1 l0_2)))
theorem colloquyref15_May.mono_l : ∀ k, (∀ y0 y1 y2 y3, LeO (colloquyref15_May.j0 k y0 y1 y2 y3) (colloquyref15_May.j0 (k + 1) y0 y1 y2 y3)) ∧ (∀ y0 y1 y2 y3, LeO (colloquyref15_May.l0 k y0 y1 y2 y3) (colloquyref15_May.l0 (k + 1) y0 y1 y2 y3))
  | 0 => ⟨fun _ _ _ _ r h => by simp [colloquyref15_May.j0] at h, fun _ _ _ _ r h => by simp [colloquyref15_May.l0] at h⟩
  | k + 1 => by
    obtain ⟨ih0, ih1⟩ := colloquyref15_May.mono_l k
    refine ⟨?_, ?_⟩
    · intro y0 y1 y2 y3
      unfold colloquyref15_May.j0
      repeat' first
      | (with_reducible exact ih0 _ _ _ _)
      | (with_reducible exact ih1 _ _ _ _)
      | (with_reducible exact colloquyref15_has.mono _ _ _)
      | (with_reducible exact LeO.refl _)
      | (with_reducible exact LeO.none _)
      | (with_reducible refine LeO.ite ?_ ?_)
      | (with_reducible refine LeO.bind ?_ (fun _ => ?_))
      | exact ih0 _ _ _ _
      | exact ih1 _ _ _ _
      | exact colloquyref15_has.mono _ _ _
      | exact LeO.none _
      | refine LeO.ite ?_ ?_
      | refine LeO.bind ?_ (fun _ => ?_)
    · intro y0 y1 y2 y3
      unfold colloquyref15_May.l0
      repeat' first
      | (with_reducible exact ih0 _ _ _ _)
      | (with_reducible exact ih1 _ _ _ _)
      | (with_reducible exact colloquyref15_has.mono _ _ _)
      | (with_reducible exact LeO.refl _)
      | (with_reducible exact LeO.none _)
      | (with_reducible refine LeO.ite ?_ ?_)
      | (with_reducible refine LeO.bind ?_ (fun _ => ?_))
      | exact ih0 _ _ _ _
      | exact ih1 _ _ _ _
      | exact colloquyref15_has.mono _ _ _
      | exact LeO.none _
      | refine LeO.ite ?_ ?_
      | refine LeO.bind ?_ (fun _ => ?_)
theorem colloquyref15_May.mono : ∀ a0 a1 a2 k, LeO (colloquyref15_May.f k a0 a1 a2) (colloquyref15_May.f (k + 1) a0 a1 a2) := by
  intro a0 a1 a2 k
  obtain ⟨ih0, ih1⟩ := colloquyref15_May.mono_l k
  unfold colloquyref15_May.f
  repeat' first
      | (with_reducible exact ih0 _ _ _ _)
      | (with_reducible exact ih1 _ _ _ _)
      | (with_reducible exact colloquyref15_has.mono _ _ _)
      | (with_reducible exact LeO.refl _)
      | (with_reducible exact LeO.none _)
      | (with_reducible refine LeO.ite ?_ ?_)
      | (with_reducible refine LeO.bind ?_ (fun _ => ?_))
      | exact ih0 _ _ _ _
      | exact ih1 _ _ _ _
      | exact colloquyref15_has.mono _ _ _
      | exact LeO.none _
      | refine LeO.ite ?_ ?_
      | refine LeO.bind ?_ (fun _ => ?_)
set_option maxHeartbeats 8000000 in
set_option maxRecDepth 100000 in
theorem colloquyref15_May.calls (k : Nat) (a0_0 : Int) (a0_1 : Int) (A0_2 : Option Addr) (c0_2 : Nat) (l0_2 : List Int) (r : Bool) (w : World) (hr0_2 : Kd.C (Kd.int .i64) w A0_2 l0_2.length l0_2) (hc0_2 : l0_2.length ≤ c0_2) (h : colloquyref15_May.f k a0_0 a0_1 l0_2 = some r) :
    Calls Try.prog 17 #[.agg #[.int .i64 a0_0, .int .i64 a0_1, .slice A0_2 l0_2.length c0_2]] w fun e w' => e = .returned (.bool r) ∧ Below w.heap.size w w' := by
  have hu24 := Try.underlying24
  have HR0_2 := Aside0.mk hr0_2
  have HC0_2 := Aside0.mk hc0_2
  clear hr0_2 hc0_2
  have HB := Aside0.mk (Below.refl w.heap.size w)
  have H : (if a0_0 < 1 then (colloquyref15_May.j0 k true a0_0 a0_1 l0_2) else (if a0_0 > 1048576 then (colloquyref15_May.j0 k true a0_0 a0_1 l0_2) else (if (l0_2.length : Int) < 1 then (colloquyref15_May.j0 k true a0_0 a0_1 l0_2) else (colloquyref15_May.j0 k (decide ((l0_2.length : Int) > 16)) a0_0 a0_1 l0_2)))) = some r := h
  clear h
  have HC2 := Aside0.mk H
  clear H
  go_enter Try.func17, Try.ntmps17
  go_upto_region 1 with (first | ((with_reducible refine gate_dst (N := 1) rfl ?_); (try (refine gate_guard (by rfl) ?_; dsimp only)); refine box_event ?hg (N := 1) ?hd (cs := #[.int .i64 a0_0, .int .i64 a0_1, .slice A0_2 l0_2.length c0_2]) (t := 24) ?hr ?_; (case hd => rfl); (case hg => rfl); (case hr => first | (go_simp; done) | (go_simp; rfl)); intro gb140 hg w3 hbox hb; have n0_ := Aside0.mk (below_step (by repeat (first | (with_reducible first | exact HB.out | apply below_alloc | apply pw_below_drewN | apply below_drew1) | exact HB.out)) hb); have n1_ := Aside0.mk (hbox); have n2_ := Aside0.mk ((by rw [hg]; exact (below_size (by repeat (first | (with_reducible first | exact HB.out | apply below_alloc | apply pw_below_drewN | apply below_drew1) | exact HB.out))) : w.heap.size ≤ gb140)); have n3_ := Aside0.mk ((by rw [hg]; exact (below_size (by repeat (first | (with_reducible first | exact HB.out | apply below_alloc | apply pw_below_drewN | apply below_drew1) | exact HB.out))) : w.heap.size ≤ gb140)); clear HB; have HB := n0_; have BK140 := n1_; have GW140 := n2_; have GE140 := n3_; clear n0_ n1_ n2_ n3_; clear hb hbox hg))
  repeat (go_quiet (first | ((with_reducible refine gate_dst (N := 1) rfl ?_); (try (refine gate_guard (by rfl) ?_; dsimp only)); refine box_event ?hg (N := 1) ?hd (cs := #[.int .i64 a0_0, .int .i64 a0_1, .slice A0_2 l0_2.length c0_2]) (t := 24) ?hr ?_; (case hd => rfl); (case hg => rfl); (case hr => first | (go_simp; done) | (go_simp; rfl)); intro gb140 hg w3 hbox hb; have n0_ := Aside0.mk (below_step (by repeat (first | (with_reducible first | exact HB.out | apply below_alloc | apply pw_below_drewN | apply below_drew1) | exact HB.out)) hb); have n1_ := Aside0.mk (hbox); have n2_ := Aside0.mk ((by rw [hg]; exact (below_size (by repeat (first | (with_reducible first | exact HB.out | apply below_alloc | apply pw_below_drewN | apply below_drew1) | exact HB.out))) : w.heap.size ≤ gb140)); have n3_ := Aside0.mk ((by rw [hg]; exact (below_size (by repeat (first | (with_reducible first | exact HB.out | apply below_alloc | apply pw_below_drewN | apply below_drew1) | exact HB.out))) : w.heap.size ≤ gb140)); clear HB; have HB := n0_; have BK140 := n1_; have GW140 := n2_; have GE140 := n3_; clear n0_ n1_ n2_ n3_; clear hb hbox hg)); go_upto_region 1 with (first | ((with_reducible refine gate_dst (N := 1) rfl ?_); (try (refine gate_guard (by rfl) ?_; dsimp only)); refine box_event ?hg (N := 1) ?hd (cs := #[.int .i64 a0_0, .int .i64 a0_1, .slice A0_2 l0_2.length c0_2]) (t := 24) ?hr ?_; (case hd => rfl); (case hg => rfl); (case hr => first | (go_simp; done) | (go_simp; rfl)); intro gb140 hg w3 hbox hb; have n0_ := Aside0.mk (below_step (by repeat (first | (with_reducible first | exact HB.out | apply below_alloc | apply pw_below_drewN | apply below_drew1) | exact HB.out)) hb); have n1_ := Aside0.mk (hbox); have n2_ := Aside0.mk ((by rw [hg]; exact (below_size (by repeat (first | (with_reducible first | exact HB.out | apply below_alloc | apply pw_below_drewN | apply below_drew1) | exact HB.out))) : w.heap.size ≤ gb140)); have n3_ := Aside0.mk ((by rw [hg]; exact (below_size (by repeat (first | (with_reducible first | exact HB.out | apply below_alloc | apply pw_below_drewN | apply below_drew1) | exact HB.out))) : w.heap.size ≤ gb140)); clear HB; have HB := n0_; have BK140 := n1_; have GW140 := n2_; have GE140 := n3_; clear n0_ n1_ n2_ n3_; clear hb hbox hg)))
  (try simp only [Act.put, List.setIfInBounds_toArray, List.set_cons_zero, List.set_cons_succ])
  go_cut [24] (fun v24 wc => ∃ (kq : Nat) (x24_1 : Bool), v24 = .bool x24_1 ∧ Aside0 (colloquyref15_May.j0 kq x24_1 a0_0 a0_1 l0_2 = some r) ∧ Aside0 (kq ≤ k) ∧ Aside0 (wc.heap[gb140]? = some (.cells #[.int .i64 a0_0, .int .i64 a0_1, (.slice A0_2 l0_2.length c0_2)] 24 (0, 0))) ∧ Aside0 (Below w.heap.size w wc))
  case first =>
    have H := HC2.out
    clear HC2
    by_cases c4 : a0_0 < 1
    · rw [if_pos c4] at H
      have c4b0 : decide (a0_0 < 1) = true := decide_eq_true c4
      clear c4
      (first | rw [c4b0] | (simp only [i64_w, i32_w]; rw [c4b0]) | skip)
      have H' := Aside0.mk H
      clear H
      have hcz5_0 : w3.cell? ⟨gb140, 0, none⟩ = some (.int .i64 a0_0) := (blk_cell BK140.out 0).trans rfl
      have hcz5_1 : w3.cell? ⟨gb140, 1, none⟩ = some (.int .i64 a0_1) := (blk_cell BK140.out 1).trans rfl
      have hcz5_2 : w3.cell? ⟨gb140, 2, none⟩ = some (.slice A0_2 l0_2.length c0_2) := (blk_cell BK140.out 2).trans rfl
      have hfz5_0 := blk_frozen BK140.out 0
      have hfz5_1 := blk_frozen BK140.out 1
      have hfz5_2 := blk_frozen BK140.out 2
      go_wp2
      repeat (go_quiet (fail); try go_wp2)
      go_meet
      case rel => exact ⟨_, (true), (by first | rfl | (simp; done) | (simp [*]; done)), H', ⟨by first | omega | exact Nat.le_refl _⟩, ⟨by (with_reducible repeat (first | refine blk_drewN ?_ _ | refine blk_drew ?_ | refine blk_alloc ?_ _)); exact BK140.out⟩, ⟨by repeat (first | (with_reducible first | exact HB.out | apply below_alloc | apply pw_below_drewN | apply below_drew1 | refine below_set ?_ GE140.out) | exact HB.out)⟩⟩
    · rw [if_neg c4] at H
      have c4b0 : decide (a0_0 < 1) = false := decide_eq_false c4
      clear c4
      (first | rw [c4b0] | (simp only [i64_w, i32_w]; rw [c4b0]) | skip)
      by_cases c6 : a0_0 > 1048576
      · rw [if_pos c6] at H
        have c6b0 : decide (1048576 < a0_0) = true := decide_eq_true c6
        clear c6
        have H' := Aside0.mk H
        clear H
        have hcz7_0 : w3.cell? ⟨gb140, 0, none⟩ = some (.int .i64 a0_0) := (blk_cell BK140.out 0).trans rfl
        have hcz7_1 : w3.cell? ⟨gb140, 1, none⟩ = some (.int .i64 a0_1) := (blk_cell BK140.out 1).trans rfl
        have hcz7_2 : w3.cell? ⟨gb140, 2, none⟩ = some (.slice A0_2 l0_2.length c0_2) := (blk_cell BK140.out 2).trans rfl
        have hfz7_0 := blk_frozen BK140.out 0
        have hfz7_1 := blk_frozen BK140.out 1
        have hfz7_2 := blk_frozen BK140.out 2
        go_wp2
        repeat (go_quiet (fail); try go_wp2)
        go_meet
        case rel => exact ⟨_, (true), (by first | rfl | (simp; done) | (simp [*]; done)), H', ⟨by first | omega | exact Nat.le_refl _⟩, ⟨by (with_reducible repeat (first | refine blk_drewN ?_ _ | refine blk_drew ?_ | refine blk_alloc ?_ _)); exact BK140.out⟩, ⟨by repeat (first | (with_reducible first | exact HB.out | apply below_alloc | apply pw_below_drewN | apply below_drew1 | refine below_set ?_ GE140.out) | exact HB.out)⟩⟩
      · rw [if_neg c6] at H
        have c6b0 : decide (1048576 < a0_0) = false := decide_eq_false c6
        clear c6
        by_cases c8 : (l0_2.length : Int) < 1
        · rw [if_pos c8] at H
          have c8b0 : decide ((l0_2.length : Int) < 1) = true := decide_eq_true c8
          have c8b1 : decide (l0_2.length < 1) = true := decide_eq_true (by omega)
          clear c8
          have H' := Aside0.mk H
          clear H
          have hcz9_0 : w3.cell? ⟨gb140, 0, none⟩ = some (.int .i64 a0_0) := (blk_cell BK140.out 0).trans rfl
          have hcz9_1 : w3.cell? ⟨gb140, 1, none⟩ = some (.int .i64 a0_1) := (blk_cell BK140.out 1).trans rfl
          have hcz9_2 : w3.cell? ⟨gb140, 2, none⟩ = some (.slice A0_2 l0_2.length c0_2) := (blk_cell BK140.out 2).trans rfl
          have hfz9_0 := blk_frozen BK140.out 0
          have hfz9_1 := blk_frozen BK140.out 1
          have hfz9_2 := blk_frozen BK140.out 2
          go_wp2
          repeat (go_quiet (fail); try go_wp2)
          go_meet
          case rel => exact ⟨_, (true), (by first | rfl | (simp; done) | (simp [*]; done)), H', ⟨by first | omega | exact Nat.le_refl _⟩, ⟨by (with_reducible repeat (first | refine blk_drewN ?_ _ | refine blk_drew ?_ | refine blk_alloc ?_ _)); exact BK140.out⟩, ⟨by repeat (first | (with_reducible first | exact HB.out | apply below_alloc | apply pw_below_drewN | apply below_drew1 | refine below_set ?_ GE140.out) | exact HB.out)⟩⟩
        · rw [if_neg c8] at H
          have c8b0 : decide ((l0_2.length : Int) < 1) = false := decide_eq_false c8
          have c8b1 : decide (l0_2.length < 1) = false := decide_eq_false (by omega)
          clear c8
          have H' := Aside0.mk H
          clear H
          have hcz10_0 : w3.cell? ⟨gb140, 0, none⟩ = some (.int .i64 a0_0) := (blk_cell BK140.out 0).trans rfl
          have hcz10_1 : w3.cell? ⟨gb140, 1, none⟩ = some (.int .i64 a0_1) := (blk_cell BK140.out 1).trans rfl
          have hcz10_2 : w3.cell? ⟨gb140, 2, none⟩ = some (.slice A0_2 l0_2.length c0_2) := (blk_cell BK140.out 2).trans rfl
          have hfz10_0 := blk_frozen BK140.out 0
          have hfz10_1 := blk_frozen BK140.out 1
          have hfz10_2 := blk_frozen BK140.out 2
          go_wp2
          repeat (go_quiet (fail); try go_wp2)
          go_meet
          case rel => exact ⟨_, (decide ((l0_2.length : Int) > 16)), (by first | rfl | (simp; done) | (simp [*]; done)), H', ⟨by first | omega | exact Nat.le_refl _⟩, ⟨by (with_reducible repeat (first | refine blk_drewN ?_ _ | refine blk_drew ?_ | refine blk_alloc ?_ _)); exact BK140.out⟩, ⟨by repeat (first | (with_reducible first | exact HB.out | apply below_alloc | apply pw_below_drewN | apply below_drew1 | refine below_set ?_ GE140.out) | exact HB.out)⟩⟩
  case rest =>
    clear HC2
    try clear c1
    try clear p2
    try clear c4
    try clear c4b0
    try clear c6
    try clear c6b0
    try clear c8
    try clear c8b0
    try clear c8b1
    try clear hcz10_0
    try clear hcz10_1
    try clear hcz10_2
    try clear hcz5_0
    try clear hcz5_1
    try clear hcz5_2
    try clear hcz7_0
    try clear hcz7_1
    try clear hcz7_2
    try clear hcz9_0
    try clear hcz9_1
    try clear hcz9_2
    try clear hfz10_0
    try clear hfz10_1
    try clear hfz10_2
    try clear hfz5_0
    try clear hfz5_1
    try clear hfz5_2
    try clear hfz7_0
    try clear hfz7_1
    try clear hfz7_2
    try clear hfz9_0
    try clear hfz9_1
    try clear hfz9_2
    obtain ⟨kq, x24_1, rfl, HA, HJ1, BK140, HB⟩ := hcut
    cases kq with
    | zero => exact absurd HA.out (by simp [colloquyref15_May.j0])
    | succ kj1 =>
      have H := HA.out
      clear HA
      simp only [colloquyref15_May.j0] at H
      by_cases c11 : x24_1 = true
      · subst c11
        have H1 : (some false) = some r := by rw [if_pos rfl] at H; exact H
        clear H
        have H := H1
        clear H1
        obtain rfl := Option.some.inj H
        go_wp2
        repeat (go_quiet (fail); try go_wp2)
        go_ret
        exact ⟨by first | rfl | (simp [errW_none, errW_some] <;> rfl) | (simp [*, errW_none, errW_some] <;> rfl), by repeat (first | (with_reducible first | exact HB.out | apply below_alloc | apply pw_below_drewN | apply below_drew1 | refine below_set ?_ GE140.out) | exact HB.out)⟩
      · replace c11 := Bool.eq_false_iff.mpr c11
        subst c11
        have H1 : (colloquyref15_May.l0 kj1 0 a0_0 a0_1 l0_2) = some r := by rw [if_neg (show ¬ (false = true) by decide)] at H; exact H
        clear H
        have H := H1
        clear H1
        have H' := Aside0.mk H
        clear H
        go_wp2
        repeat (go_quiet (fail); try go_wp2)
        go_loopg [3] kj1 (fun kq v3 w' => ∃ (x3_2 : Int), v3 = .int .i64 x3_2 ∧ Aside0 (colloquyref15_May.l0 kq x3_2 a0_0 a0_1 l0_2 = some r) ∧ Aside0 (kq ≤ kj1) ∧ Aside0 (w'.heap[gb140]? = some (.cells #[.int .i64 a0_0, .int .i64 a0_1, (.slice A0_2 l0_2.length c0_2)] 24 (0, 0))) ∧ Aside0 (Below w.heap.size w w'))
        case atStart => exact ⟨(0), (by first | rfl | (simp; done) | (simp [*]; done)), H', ⟨Nat.le_refl _⟩, ⟨by (with_reducible repeat (first | refine blk_drewN ?_ _ | refine blk_drew ?_ | refine blk_alloc ?_ _)); exact BK140.out⟩, ⟨by repeat (first | (with_reducible first | exact HB.out | apply below_alloc | apply pw_below_drewN | apply below_drew1 | refine below_set ?_ GE140.out) | exact HB.out)⟩⟩
        case round =>
          clear H'
          try clear c1
          try clear p2
          try clear c4
          try clear c4b0
          try clear c6
          try clear c6b0
          try clear c8
          try clear c8b0
          try clear c8b1
          try clear c11
          try clear hcz10_0
          try clear hcz10_1
          try clear hcz10_2
          try clear hcz5_0
          try clear hcz5_1
          try clear hcz5_2
          try clear hcz7_0
          try clear hcz7_1
          try clear hcz7_2
          try clear hcz9_0
          try clear hcz9_1
          try clear hcz9_2
          try clear hfz10_0
          try clear hfz10_1
          try clear hfz10_2
          try clear hfz5_0
          try clear hfz5_1
          try clear hfz5_2
          try clear hfz7_0
          try clear hfz7_1
          try clear hfz7_2
          try clear hfz9_0
          try clear hfz9_1
          try clear hfz9_2
          try clear p2
          obtain ⟨x3_2, rfl, HA, HK2, BK140, HB⟩ := hrel
          cases gk with
          | zero => exact absurd HA.out (by simp [colloquyref15_May.l0])
          | succ k2 =>
            have H := HA.out
            clear HA
            simp only [colloquyref15_May.l0] at H
            by_cases c12 : x3_2 < (l0_2.length : Int)
            · rw [if_pos c12] at H
              have c12b0 : decide (x3_2 < (l0_2.length : Int)) = true := decide_eq_true c12
              clear c12
              by_cases c13 : 0 ≤ x3_2
              · rw [if_pos c13] at H
                have c13b0 : decide (0 ≤ x3_2) = true := decide_eq_true c13
                clear c13
                replace H := Option.bind_eq_some_iff.mp H
                obtain ⟨t142, A140, H⟩ := H
                replace H : (if t142 = true then (if x3_2 > 0 then (if 0 ≤ (wrap64 (x3_2 - 1)) then (if (wrap64 (x3_2 - 1)) < (l0_2.length : Int) then (if (rd l0_2 x3_2) ≤ (rd l0_2 (wrap64 (x3_2 - 1))) then (some false) else (colloquyref15_May.l0 k2 (wrap64 (x3_2 + 1)) a0_0 a0_1 l0_2)) else (none)) else (none)) else (colloquyref15_May.l0 k2 (wrap64 (x3_2 + 1)) a0_0 a0_1 l0_2)) else (some false)) = some r := H
                have A14 := Aside0.mk A140
                clear A140
                by_cases c15 : t142 = true
                · subst c15
                  have H1 : (if x3_2 > 0 then (if 0 ≤ (wrap64 (x3_2 - 1)) then (if (wrap64 (x3_2 - 1)) < (l0_2.length : Int) then (if (rd l0_2 x3_2) ≤ (rd l0_2 (wrap64 (x3_2 - 1))) then (some false) else (colloquyref15_May.l0 k2 (wrap64 (x3_2 + 1)) a0_0 a0_1 l0_2)) else (none)) else (none)) else (colloquyref15_May.l0 k2 (wrap64 (x3_2 + 1)) a0_0 a0_1 l0_2)) = some r := by rw [if_pos rfl] at H; exact H
                  clear H
                  have H := H1
                  clear H1
                  by_cases c16 : x3_2 > 0
                  · rw [if_pos c16] at H
                    have c16b0 : decide (0 < x3_2) = true := decide_eq_true c16
                    clear c16
                    obtain ⟨ji17, hji17⟩ : ∃ j_ : Int, (wrap64 (x3_2 - 1)) = j_ := ⟨_, rfl⟩
                    replace H : (if 0 ≤ (ji17) then (if (ji17) < (l0_2.length : Int) then (if (rd l0_2 x3_2) ≤ (rd l0_2 (ji17)) then (some false) else (colloquyref15_May.l0 k2 (wrap64 (x3_2 + 1)) a0_0 a0_1 l0_2)) else (none)) else (none)) = some r := by first | (rw [hji17] at H; exact H) | (simp only [hji17] at H ⊢; exact H)
                    (try rw [hji17] at A14)
                    have hji17w : (IntKind.i64.wrap (x3_2 - 1)) = ji17 := (i64_w _).trans hji17
                    by_cases c18 : 0 ≤ (ji17)
                    · rw [if_pos c18] at H
                      have c18b0 : decide (0 ≤ (ji17)) = true := decide_eq_true c18
                      clear c18
                      by_cases c19 : (ji17) < (l0_2.length : Int)
                      · rw [if_pos c19] at H
                        have c19b0 : decide ((ji17) < (l0_2.length : Int)) = true := decide_eq_true c19
                        clear c19
                        by_cases c20 : (rd l0_2 x3_2) ≤ (rd l0_2 (ji17))
                        · rw [if_pos c20] at H
                          have c20b0 : decide ((rd l0_2 x3_2) ≤ (rd l0_2 (ji17))) = true := decide_eq_true c20
                          clear c20
                          obtain rfl := Option.some.inj H
                          have hcz21_0 : wr.cell? ⟨gb140, 0, none⟩ = some (.int .i64 a0_0) := (blk_cell BK140.out 0).trans rfl
                          have hcz21_1 : wr.cell? ⟨gb140, 1, none⟩ = some (.int .i64 a0_1) := (blk_cell BK140.out 1).trans rfl
                          have hcz21_2 : wr.cell? ⟨gb140, 2, none⟩ = some (.slice A0_2 l0_2.length c0_2) := (blk_cell BK140.out 2).trans rfl
                          have hfz21_0 := blk_frozen BK140.out 0
                          have hfz21_1 := blk_frozen BK140.out 1
                          have hfz21_2 := blk_frozen BK140.out 2
                          have p141 : 0 ≤ (x3_2 : Int) := of_decide_eq_true (by first | (with_reducible assumption) | assumption)
                          have q141 : x3_2 < (l0_2.length : Int) := of_decide_eq_true (by first | (with_reducible assumption) | assumption)
                          obtain ⟨ad141, e141, hx141_0⟩ := Kd.at_int HR0_2.out x3_2 p141 q141
                          cases e141
                          replace hx141_0 := (HB.out.cell (World.block_lt_of_cell? w _ hx141_0)).trans hx141_0
                          replace p141 := eq_true p141
                          replace q141 := eq_true q141
                          go_wp2_with (first | (go_at_call 24; (with_reducible refine (colloquyref15_user.calls (rd l0_2 x3_2) true _ A14.out).mono ?_); rintro e w' ⟨rfl, ⟨nd, rfl⟩⟩; (try first | exact ⟨rfl, _, World.drewN_drewN _ _ _⟩ | exact ⟨rfl, _, Eq.trans (World.drewN_drewN _ _ _) (congrArg (World.drewN _) (Nat.add_assoc _ _ _))⟩); have p143 : 0 ≤ (x3_2 : Int) := of_decide_eq_true (by first | (with_reducible assumption) | assumption); have q143 : x3_2 < (l0_2.length : Int) := of_decide_eq_true (by first | (with_reducible assumption) | assumption); obtain ⟨ad143, e143, hx143_0⟩ := Kd.at_int HR0_2.out x3_2 p143 q143; obtain rfl : ad141 = ad143 := (by injection e143); replace hx143_0 := (HB.out.cell (World.block_lt_of_cell? w _ hx143_0)).trans hx143_0; replace p143 := eq_true p143; replace q143 := eq_true q143; have p144 : 0 ≤ ((ji17) : Int) := of_decide_eq_true (by first | (with_reducible assumption) | assumption); have q144 : (ji17) < (l0_2.length : Int) := of_decide_eq_true (by first | (with_reducible assumption) | assumption); obtain ⟨ad144, e144, hx144_0⟩ := Kd.at_int HR0_2.out (ji17) p144 q144; obtain rfl : ad141 = ad144 := (by injection e144); replace hx144_0 := (HB.out.cell (World.block_lt_of_cell? w _ hx144_0)).trans hx144_0; replace p144 := eq_true p144; replace q144 := eq_true q144))
                          repeat (go_quiet (first | (go_at_call 24; (with_reducible refine (colloquyref15_user.calls (rd l0_2 x3_2) true _ A14.out).mono ?_); rintro e w' ⟨rfl, ⟨nd, rfl⟩⟩; (try first | exact ⟨rfl, _, World.drewN_drewN _ _ _⟩ | exact ⟨rfl, _, Eq.trans (World.drewN_drewN _ _ _) (congrArg (World.drewN _) (Nat.add_assoc _ _ _))⟩); have p143 : 0 ≤ (x3_2 : Int) := of_decide_eq_true (by first | (with_reducible assumption) | assumption); have q143 : x3_2 < (l0_2.length : Int) := of_decide_eq_true (by first | (with_reducible assumption) | assumption); obtain ⟨ad143, e143, hx143_0⟩ := Kd.at_int HR0_2.out x3_2 p143 q143; obtain rfl : ad141 = ad143 := (by injection e143); replace hx143_0 := (HB.out.cell (World.block_lt_of_cell? w _ hx143_0)).trans hx143_0; replace p143 := eq_true p143; replace q143 := eq_true q143; have p144 : 0 ≤ ((ji17) : Int) := of_decide_eq_true (by first | (with_reducible assumption) | assumption); have q144 : (ji17) < (l0_2.length : Int) := of_decide_eq_true (by first | (with_reducible assumption) | assumption); obtain ⟨ad144, e144, hx144_0⟩ := Kd.at_int HR0_2.out (ji17) p144 q144; obtain rfl : ad141 = ad144 := (by injection e144); replace hx144_0 := (HB.out.cell (World.block_lt_of_cell? w _ hx144_0)).trans hx144_0; replace p144 := eq_true p144; replace q144 := eq_true q144)); try go_wp2_with (first | (go_at_call 24; (with_reducible refine (colloquyref15_user.calls (rd l0_2 x3_2) true _ A14.out).mono ?_); rintro e w' ⟨rfl, ⟨nd, rfl⟩⟩; (try first | exact ⟨rfl, _, World.drewN_drewN _ _ _⟩ | exact ⟨rfl, _, Eq.trans (World.drewN_drewN _ _ _) (congrArg (World.drewN _) (Nat.add_assoc _ _ _))⟩); have p143 : 0 ≤ (x3_2 : Int) := of_decide_eq_true (by first | (with_reducible assumption) | assumption); have q143 : x3_2 < (l0_2.length : Int) := of_decide_eq_true (by first | (with_reducible assumption) | assumption); obtain ⟨ad143, e143, hx143_0⟩ := Kd.at_int HR0_2.out x3_2 p143 q143; obtain rfl : ad141 = ad143 := (by injection e143); replace hx143_0 := (HB.out.cell (World.block_lt_of_cell? w _ hx143_0)).trans hx143_0; replace p143 := eq_true p143; replace q143 := eq_true q143; have p144 : 0 ≤ ((ji17) : Int) := of_decide_eq_true (by first | (with_reducible assumption) | assumption); have q144 : (ji17) < (l0_2.length : Int) := of_decide_eq_true (by first | (with_reducible assumption) | assumption); obtain ⟨ad144, e144, hx144_0⟩ := Kd.at_int HR0_2.out (ji17) p144 q144; obtain rfl : ad141 = ad144 := (by injection e144); replace hx144_0 := (HB.out.cell (World.block_lt_of_cell? w _ hx144_0)).trans hx144_0; replace p144 := eq_true p144; replace q144 := eq_true q144)))
                          go_ret
                          exact ⟨by first | rfl | (simp [errW_none, errW_some] <;> rfl) | (simp only [← hji17]; first | rfl | (simp [errW_none, errW_some] <;> rfl)) | (simp [*, errW_none, errW_some] <;> rfl), by repeat (first | (with_reducible first | exact HB.out | apply below_alloc | apply pw_below_drewN | apply below_drew1 | refine below_set ?_ GE140.out) | exact HB.out)⟩
                        · rw [if_neg c20] at H
                          have c20b0 : decide ((rd l0_2 x3_2) ≤ (rd l0_2 (ji17))) = false := decide_eq_false c20
                          clear c20
                          have H' := Aside0.mk H
                          clear H
                          have hcz22_0 : wr.cell? ⟨gb140, 0, none⟩ = some (.int .i64 a0_0) := (blk_cell BK140.out 0).trans rfl
                          have hcz22_1 : wr.cell? ⟨gb140, 1, none⟩ = some (.int .i64 a0_1) := (blk_cell BK140.out 1).trans rfl
                          have hcz22_2 : wr.cell? ⟨gb140, 2, none⟩ = some (.slice A0_2 l0_2.length c0_2) := (blk_cell BK140.out 2).trans rfl
                          have hfz22_0 := blk_frozen BK140.out 0
                          have hfz22_1 := blk_frozen BK140.out 1
                          have hfz22_2 := blk_frozen BK140.out 2
                          have p141 : 0 ≤ (x3_2 : Int) := of_decide_eq_true (by first | (with_reducible assumption) | assumption)
                          have q141 : x3_2 < (l0_2.length : Int) := of_decide_eq_true (by first | (with_reducible assumption) | assumption)
                          obtain ⟨ad141, e141, hx141_0⟩ := Kd.at_int HR0_2.out x3_2 p141 q141
                          cases e141
                          replace hx141_0 := (HB.out.cell (World.block_lt_of_cell? w _ hx141_0)).trans hx141_0
                          replace p141 := eq_true p141
                          replace q141 := eq_true q141
                          go_wp2_with (first | (go_at_call 24; (with_reducible refine (colloquyref15_user.calls (rd l0_2 x3_2) true _ A14.out).mono ?_); rintro e w' ⟨rfl, ⟨nd, rfl⟩⟩; (try first | exact ⟨rfl, _, World.drewN_drewN _ _ _⟩ | exact ⟨rfl, _, Eq.trans (World.drewN_drewN _ _ _) (congrArg (World.drewN _) (Nat.add_assoc _ _ _))⟩); have p143 : 0 ≤ (x3_2 : Int) := of_decide_eq_true (by first | (with_reducible assumption) | assumption); have q143 : x3_2 < (l0_2.length : Int) := of_decide_eq_true (by first | (with_reducible assumption) | assumption); obtain ⟨ad143, e143, hx143_0⟩ := Kd.at_int HR0_2.out x3_2 p143 q143; obtain rfl : ad141 = ad143 := (by injection e143); replace hx143_0 := (HB.out.cell (World.block_lt_of_cell? w _ hx143_0)).trans hx143_0; replace p143 := eq_true p143; replace q143 := eq_true q143; have p144 : 0 ≤ ((ji17) : Int) := of_decide_eq_true (by first | (with_reducible assumption) | assumption); have q144 : (ji17) < (l0_2.length : Int) := of_decide_eq_true (by first | (with_reducible assumption) | assumption); obtain ⟨ad144, e144, hx144_0⟩ := Kd.at_int HR0_2.out (ji17) p144 q144; obtain rfl : ad141 = ad144 := (by injection e144); replace hx144_0 := (HB.out.cell (World.block_lt_of_cell? w _ hx144_0)).trans hx144_0; replace p144 := eq_true p144; replace q144 := eq_true q144))
                          repeat (go_quiet (first | (go_at_call 24; (with_reducible refine (colloquyref15_user.calls (rd l0_2 x3_2) true _ A14.out).mono ?_); rintro e w' ⟨rfl, ⟨nd, rfl⟩⟩; (try first | exact ⟨rfl, _, World.drewN_drewN _ _ _⟩ | exact ⟨rfl, _, Eq.trans (World.drewN_drewN _ _ _) (congrArg (World.drewN _) (Nat.add_assoc _ _ _))⟩); have p143 : 0 ≤ (x3_2 : Int) := of_decide_eq_true (by first | (with_reducible assumption) | assumption); have q143 : x3_2 < (l0_2.length : Int) := of_decide_eq_true (by first | (with_reducible assumption) | assumption); obtain ⟨ad143, e143, hx143_0⟩ := Kd.at_int HR0_2.out x3_2 p143 q143; obtain rfl : ad141 = ad143 := (by injection e143); replace hx143_0 := (HB.out.cell (World.block_lt_of_cell? w _ hx143_0)).trans hx143_0; replace p143 := eq_true p143; replace q143 := eq_true q143; have p144 : 0 ≤ ((ji17) : Int) := of_decide_eq_true (by first | (with_reducible assumption) | assumption); have q144 : (ji17) < (l0_2.length : Int) := of_decide_eq_true (by first | (with_reducible assumption) | assumption); obtain ⟨ad144, e144, hx144_0⟩ := Kd.at_int HR0_2.out (ji17) p144 q144; obtain rfl : ad141 = ad144 := (by injection e144); replace hx144_0 := (HB.out.cell (World.block_lt_of_cell? w _ hx144_0)).trans hx144_0; replace p144 := eq_true p144; replace q144 := eq_true q144)); try go_wp2_with (first | (go_at_call 24; (with_reducible refine (colloquyref15_user.calls (rd l0_2 x3_2) true _ A14.out).mono ?_); rintro e w' ⟨rfl, ⟨nd, rfl⟩⟩; (try first | exact ⟨rfl, _, World.drewN_drewN _ _ _⟩ | exact ⟨rfl, _, Eq.trans (World.drewN_drewN _ _ _) (congrArg (World.drewN _) (Nat.add_assoc _ _ _))⟩); have p143 : 0 ≤ (x3_2 : Int) := of_decide_eq_true (by first | (with_reducible assumption) | assumption); have q143 : x3_2 < (l0_2.length : Int) := of_decide_eq_true (by first | (with_reducible assumption) | assumption); obtain ⟨ad143, e143, hx143_0⟩ := Kd.at_int HR0_2.out x3_2 p143 q143; obtain rfl : ad141 = ad143 := (by injection e143); replace hx143_0 := (HB.out.cell (World.block_lt_of_cell? w _ hx143_0)).trans hx143_0; replace p143 := eq_true p143; replace q143 := eq_true q143; have p144 : 0 ≤ ((ji17) : Int) := of_decide_eq_true (by first | (with_reducible assumption) | assumption); have q144 : (ji17) < (l0_2.length : Int) := of_decide_eq_true (by first | (with_reducible assumption) | assumption); obtain ⟨ad144, e144, hx144_0⟩ := Kd.at_int HR0_2.out (ji17) p144 q144; obtain rfl : ad141 = ad144 := (by injection e144); replace hx144_0 := (HB.out.cell (World.block_lt_of_cell? w _ hx144_0)).trans hx144_0; replace p144 := eq_true p144; replace q144 := eq_true q144)))
                          go_roundg k2
                          case measure => have := HJ1.out; have := HK2.out; omega
                          case rel => exact ⟨(wrap64 (x3_2 + 1)), (by first | rfl | (simp; done) | (simp [*]; done)), H', ⟨by have := HJ1.out; have := HK2.out; omega⟩, ⟨by (with_reducible repeat (first | refine blk_drewN ?_ _ | refine blk_drew ?_ | refine blk_alloc ?_ _)); exact BK140.out⟩, ⟨by repeat (first | (with_reducible first | exact HB.out | apply below_alloc | apply pw_below_drewN | apply below_drew1 | refine below_set ?_ GE140.out) | exact HB.out)⟩⟩
                      · rw [if_neg c19] at H
                        exact absurd H (by simp)
                    · rw [if_neg c18] at H
                      exact absurd H (by simp)
                  · rw [if_neg c16] at H
                    have c16b0 : decide (0 < x3_2) = false := decide_eq_false c16
                    clear c16
                    have H' := Aside0.mk H
                    clear H
                    have hcz23_0 : wr.cell? ⟨gb140, 0, none⟩ = some (.int .i64 a0_0) := (blk_cell BK140.out 0).trans rfl
                    have hcz23_1 : wr.cell? ⟨gb140, 1, none⟩ = some (.int .i64 a0_1) := (blk_cell BK140.out 1).trans rfl
                    have hcz23_2 : wr.cell? ⟨gb140, 2, none⟩ = some (.slice A0_2 l0_2.length c0_2) := (blk_cell BK140.out 2).trans rfl
                    have hfz23_0 := blk_frozen BK140.out 0
                    have hfz23_1 := blk_frozen BK140.out 1
                    have hfz23_2 := blk_frozen BK140.out 2
                    have p141 : 0 ≤ (x3_2 : Int) := of_decide_eq_true (by first | (with_reducible assumption) | assumption)
                    have q141 : x3_2 < (l0_2.length : Int) := of_decide_eq_true (by first | (with_reducible assumption) | assumption)
                    obtain ⟨ad141, e141, hx141_0⟩ := Kd.at_int HR0_2.out x3_2 p141 q141
                    cases e141
                    replace hx141_0 := (HB.out.cell (World.block_lt_of_cell? w _ hx141_0)).trans hx141_0
                    replace p141 := eq_true p141
                    replace q141 := eq_true q141
                    go_wp2_with (first | (go_at_call 24; (with_reducible refine (colloquyref15_user.calls (rd l0_2 x3_2) true _ A14.out).mono ?_); rintro e w' ⟨rfl, ⟨nd, rfl⟩⟩; (try first | exact ⟨rfl, _, World.drewN_drewN _ _ _⟩ | exact ⟨rfl, _, Eq.trans (World.drewN_drewN _ _ _) (congrArg (World.drewN _) (Nat.add_assoc _ _ _))⟩)))
                    repeat (go_quiet (first | (go_at_call 24; (with_reducible refine (colloquyref15_user.calls (rd l0_2 x3_2) true _ A14.out).mono ?_); rintro e w' ⟨rfl, ⟨nd, rfl⟩⟩; (try first | exact ⟨rfl, _, World.drewN_drewN _ _ _⟩ | exact ⟨rfl, _, Eq.trans (World.drewN_drewN _ _ _) (congrArg (World.drewN _) (Nat.add_assoc _ _ _))⟩))); try go_wp2_with (first | (go_at_call 24; (with_reducible refine (colloquyref15_user.calls (rd l0_2 x3_2) true _ A14.out).mono ?_); rintro e w' ⟨rfl, ⟨nd, rfl⟩⟩; (try first | exact ⟨rfl, _, World.drewN_drewN _ _ _⟩ | exact ⟨rfl, _, Eq.trans (World.drewN_drewN _ _ _) (congrArg (World.drewN _) (Nat.add_assoc _ _ _))⟩))))
                    go_roundg k2
                    case measure => have := HJ1.out; have := HK2.out; omega
                    case rel => exact ⟨(wrap64 (x3_2 + 1)), (by first | rfl | (simp; done) | (simp [*]; done)), H', ⟨by have := HJ1.out; have := HK2.out; omega⟩, ⟨by (with_reducible repeat (first | refine blk_drewN ?_ _ | refine blk_drew ?_ | refine blk_alloc ?_ _)); exact BK140.out⟩, ⟨by repeat (first | (with_reducible first | exact HB.out | apply below_alloc | apply pw_below_drewN | apply below_drew1 | refine below_set ?_ GE140.out) | exact HB.out)⟩⟩
                · replace c15 := Bool.eq_false_iff.mpr c15
                  subst c15
                  have H1 : (some false) = some r := by rw [if_neg (show ¬ (false = true) by decide)] at H; exact H
                  clear H
                  have H := H1
                  clear H1
                  obtain rfl := Option.some.inj H
                  have hcz24_0 : wr.cell? ⟨gb140, 0, none⟩ = some (.int .i64 a0_0) := (blk_cell BK140.out 0).trans rfl
                  have hcz24_1 : wr.cell? ⟨gb140, 1, none⟩ = some (.int .i64 a0_1) := (blk_cell BK140.out 1).trans rfl
                  have hcz24_2 : wr.cell? ⟨gb140, 2, none⟩ = some (.slice A0_2 l0_2.length c0_2) := (blk_cell BK140.out 2).trans rfl
                  have hfz24_0 := blk_frozen BK140.out 0
                  have hfz24_1 := blk_frozen BK140.out 1
                  have hfz24_2 := blk_frozen BK140.out 2
                  have p141 : 0 ≤ (x3_2 : Int) := of_decide_eq_true (by first | (with_reducible assumption) | assumption)
                  have q141 : x3_2 < (l0_2.length : Int) := of_decide_eq_true (by first | (with_reducible assumption) | assumption)
                  obtain ⟨ad141, e141, hx141_0⟩ := Kd.at_int HR0_2.out x3_2 p141 q141
                  cases e141
                  replace hx141_0 := (HB.out.cell (World.block_lt_of_cell? w _ hx141_0)).trans hx141_0
                  replace p141 := eq_true p141
                  replace q141 := eq_true q141
                  go_wp2_with (first | (go_at_call 24; (with_reducible refine (colloquyref15_user.calls (rd l0_2 x3_2) false _ A14.out).mono ?_); rintro e w' ⟨rfl, ⟨nd, rfl⟩⟩; (try first | exact ⟨rfl, _, World.drewN_drewN _ _ _⟩ | exact ⟨rfl, _, Eq.trans (World.drewN_drewN _ _ _) (congrArg (World.drewN _) (Nat.add_assoc _ _ _))⟩)))
                  repeat (go_quiet (first | (go_at_call 24; (with_reducible refine (colloquyref15_user.calls (rd l0_2 x3_2) false _ A14.out).mono ?_); rintro e w' ⟨rfl, ⟨nd, rfl⟩⟩; (try first | exact ⟨rfl, _, World.drewN_drewN _ _ _⟩ | exact ⟨rfl, _, Eq.trans (World.drewN_drewN _ _ _) (congrArg (World.drewN _) (Nat.add_assoc _ _ _))⟩))); try go_wp2_with (first | (go_at_call 24; (with_reducible refine (colloquyref15_user.calls (rd l0_2 x3_2) false _ A14.out).mono ?_); rintro e w' ⟨rfl, ⟨nd, rfl⟩⟩; (try first | exact ⟨rfl, _, World.drewN_drewN _ _ _⟩ | exact ⟨rfl, _, Eq.trans (World.drewN_drewN _ _ _) (congrArg (World.drewN _) (Nat.add_assoc _ _ _))⟩))))
                  go_ret
                  exact ⟨by first | rfl | (simp [errW_none, errW_some] <;> rfl) | (simp [*, errW_none, errW_some] <;> rfl), by repeat (first | (with_reducible first | exact HB.out | apply below_alloc | apply pw_below_drewN | apply below_drew1 | refine below_set ?_ GE140.out) | exact HB.out)⟩
              · rw [if_neg c13] at H
                exact absurd H (by simp)
            · rw [if_neg c12] at H
              have c12b0 : decide (x3_2 < (l0_2.length : Int)) = false := decide_eq_false c12
              clear c12
              replace H := Option.bind_eq_some_iff.mp H
              obtain ⟨t145, A250, H⟩ := H
              replace H : (some t145) = some r := H
              have A25 := Aside0.mk A250
              clear A250
              obtain rfl := Option.some.inj H
              have hcz26_0 : wr.cell? ⟨gb140, 0, none⟩ = some (.int .i64 a0_0) := (blk_cell BK140.out 0).trans rfl
              have hcz26_1 : wr.cell? ⟨gb140, 1, none⟩ = some (.int .i64 a0_1) := (blk_cell BK140.out 1).trans rfl
              have hcz26_2 : wr.cell? ⟨gb140, 2, none⟩ = some (.slice A0_2 l0_2.length c0_2) := (blk_cell BK140.out 2).trans rfl
              have hfz26_0 := blk_frozen BK140.out 0
              have hfz26_1 := blk_frozen BK140.out 1
              have hfz26_2 := blk_frozen BK140.out 2
              go_wp2_with (first | (go_at_call 25; (with_reducible refine (colloquyref15_has.calls k2 _ _ l0_2 a0_1 t145 _ ?side1 ?side2 A25.out).mono ?_); (case side1 => repeat (first | exact (Kd.C_below HR0_2.out HB.out) | (with_reducible refine Kd.C_alloc ?_ _) | (with_reducible refine Kd.C_drewN ?_ _) | (with_reducible refine Kd.C_drew ?_))); (case side2 => exact HC0_2.out); rintro e w' ⟨rfl, ⟨nd, rfl⟩⟩; (try first | exact ⟨rfl, _, World.drewN_drewN _ _ _⟩ | exact ⟨rfl, _, Eq.trans (World.drewN_drewN _ _ _) (congrArg (World.drewN _) (Nat.add_assoc _ _ _))⟩)))
              repeat (go_quiet (first | (go_at_call 25; (with_reducible refine (colloquyref15_has.calls k2 _ _ l0_2 a0_1 t145 _ ?side1 ?side2 A25.out).mono ?_); (case side1 => repeat (first | exact (Kd.C_below HR0_2.out HB.out) | (with_reducible refine Kd.C_alloc ?_ _) | (with_reducible refine Kd.C_drewN ?_ _) | (with_reducible refine Kd.C_drew ?_))); (case side2 => exact HC0_2.out); rintro e w' ⟨rfl, ⟨nd, rfl⟩⟩; (try first | exact ⟨rfl, _, World.drewN_drewN _ _ _⟩ | exact ⟨rfl, _, Eq.trans (World.drewN_drewN _ _ _) (congrArg (World.drewN _) (Nat.add_assoc _ _ _))⟩))); try go_wp2_with (first | (go_at_call 25; (with_reducible refine (colloquyref15_has.calls k2 _ _ l0_2 a0_1 t145 _ ?side1 ?side2 A25.out).mono ?_); (case side1 => repeat (first | exact (Kd.C_below HR0_2.out HB.out) | (with_reducible refine Kd.C_alloc ?_ _) | (with_reducible refine Kd.C_drewN ?_ _) | (with_reducible refine Kd.C_drew ?_))); (case side2 => exact HC0_2.out); rintro e w' ⟨rfl, ⟨nd, rfl⟩⟩; (try first | exact ⟨rfl, _, World.drewN_drewN _ _ _⟩ | exact ⟨rfl, _, Eq.trans (World.drewN_drewN _ _ _) (congrArg (World.drewN _) (Nat.add_assoc _ _ _))⟩))))
              go_ret
              exact ⟨by first | rfl | (simp [errW_none, errW_some] <;> rfl) | (simp [*, errW_none, errW_some] <;> rfl), by repeat (first | (with_reducible first | exact HB.out | apply below_alloc | apply pw_below_drewN | apply below_drew1 | refine below_set ?_ GE140.out) | exact HB.out)⟩

end Go.Proofs.Ytffeomfcjmmgoaa.PPeopleChange
