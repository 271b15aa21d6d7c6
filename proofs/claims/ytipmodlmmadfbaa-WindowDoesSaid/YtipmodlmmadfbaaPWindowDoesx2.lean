-- Printed by a program of this session (xprint.py), which runs the kit's print and takes some contracts from texts of this session.
import Derived.Test.YtipmodlmmadfbaaPWindowDoesx0
namespace Go.Proofs.Ytipmodlmmadfbaa.PWindowDoes
open Go.RowKit Go.Proofs.YtipmodlmmadfbaaW.PrintWords Go.Proofs.YtipmodlmmadfbaaW.PrintLast Go.Proofs.YtipmodlmmadfbaaW.PrintMore
abbrev Z2d := @World.block_lt_of_cell?
abbrev Z2e := @pw_below_drewN
attribute [local go_sem] max2_int min2_int max_two min_two max_three min_three max_four min_four   -- for this text's walks alone
set_option linter.unusedVariables false
set_option linter.unusedSimpArgs false

/-! ### window_May: function 15 -/
def window_May.l0 : Nat → Int → List (S42) → Int → Int → Int → List (S42) → Option (Bool)
 | 0, _, _, _, _, _, _ => none
 | k + 1, x3, x9, x10, x11, x102000, x102001 => if x11 < x10 then (if 0 ≤ x11 then (if x11 < (x9.length : Int) then (if ((rd_T42 x9 x11).f0) ≤ x3 then (some false) else (if ((rd_T42 x9 x11).f0) > 1073741824 then (some false) else (window_May.l0 k ((rd_T42 x9 x11).f0) x9 x10 (wrap64 (x11 + 1)) x102000 x102001))) else (none)) else (none)) else (if x102000 ≥ 0 then (if x102000 ≤ 1073741824 then (some (decide ((x102001.length : Int) ≤ 8))) else (some false)) else (some false))
def window_May.f (k : Nat) (a0_0 : Int) (l0_1 : List (S42)) : Option (Bool) := window_May.l0 k a0_0 l0_1 (l0_1.length : Int) 0 a0_0 l0_1
theorem window_May.mono_l : ∀ k, (∀ y0 y1 y2 y3 y4 y5, LeO (window_May.l0 k y0 y1 y2 y3 y4 y5) (window_May.l0 (k + 1) y0 y1 y2 y3 y4 y5))
 | 0 => fun _ _ _ _ _ _ r h => by simp [window_May.l0] at h
 | k + 1 => by
  have ih0 := window_May.mono_l k
  ·
   intro y0 y1 y2 y3 y4 y5
   unfold window_May.l0
   repeat' first
   | (with_reducible exact ih0 _ _ _ _ _ _)
   | (with_reducible exact LeO.refl _)
   | (with_reducible exact LeO.none _)
   | (with_reducible refine LeO.ite ?_ ?_)
   | (with_reducible refine LeO.bind ?_ (fun _ => ?_))
   | exact ih0 _ _ _ _ _ _
   | exact LeO.none _
   | refine LeO.ite ?_ ?_
   | refine LeO.bind ?_ (fun _ => ?_)
theorem window_May.mono : ∀ a0 a1 k, LeO (window_May.f k a0 a1) (window_May.f (k + 1) a0 a1) := by
 intro a0 a1 k
 have ih0 := window_May.mono_l k
 unfold window_May.f
 repeat' first
  | (with_reducible exact ih0 _ _ _ _ _ _)
  | (with_reducible exact LeO.refl _)
  | (with_reducible exact LeO.none _)
  | (with_reducible refine LeO.ite ?_ ?_)
  | (with_reducible refine LeO.bind ?_ (fun _ => ?_))
  | exact ih0 _ _ _ _ _ _
  | exact LeO.none _
  | refine LeO.ite ?_ ?_
  | refine LeO.bind ?_ (fun _ => ?_)
set_option maxHeartbeats 8000000 in
set_option maxRecDepth 100000 in
theorem window_May.calls (k : Nat) (a0_0 : Int) (A0_1 : Option Addr) (c0_1 : Nat) (l0_1 : List (S42)) (r : Bool) (w : World) (hr0_1 : Kd.C k42 w A0_1 l0_1.length l0_1) (hc0_1 : l0_1.length ≤ c0_1) (h : window_May.f k a0_0 l0_1 = some r) :
 Calls Try.prog 15 #[.agg #[.int .i64 a0_0, .slice A0_1 l0_1.length c0_1]] w fun e w' => e = .returned (.bool r) ∧ Below w.heap.size w w' := by
 have hu24 := Try.underlying24
 have hu42 := Try.underlying42
 have HR0_1 := Aside0.mk hr0_1
 have HC0_1 := Aside0.mk hc0_1
 clear hr0_1 hc0_1
 have HB := Aside0.mk (Below.refl w.heap.size w)
 have H : (window_May.l0 k a0_0 l0_1 (l0_1.length : Int) 0 a0_0 l0_1) = some r := h
 clear h
 have H' := Aside0.mk H
 clear H
 go_enter Try.func15, Try.ntmps15
 go_wp2_with (first | ((with_reducible refine gate_dst (N := 1) rfl ?_); (try (refine gate_guard (by rfl) ?_; dsimp only)); refine box_event ?hg (N := 1) ?hd (cs := #[.int .i64 a0_0, .slice A0_1 l0_1.length c0_1]) (t := 24) ?hr ?_; (case hd => rfl); (case hg => rfl); (case hr => first | (go_simp; done) | (go_simp; rfl)); intro gb101 hg w2 hbox hb; have n0_ := Aside0.mk (below_step (by repeat (first | (with_reducible first | exact HB.out | apply below_alloc | apply Z2e | apply below_drew1) | exact HB.out)) hb); have n1_ := Aside0.mk (hbox); have n2_ := Aside0.mk ((by rw [hg]; exact (below_size (by repeat (first | (with_reducible first | exact HB.out | apply below_alloc | apply Z2e | apply below_drew1) | exact HB.out))) : w.heap.size ≤ gb101)); have n3_ := Aside0.mk ((by rw [hg]; exact (below_size (by repeat (first | (with_reducible first | exact HB.out | apply below_alloc | apply Z2e | apply below_drew1) | exact HB.out))) : w.heap.size ≤ gb101)); clear HB; have HB := n0_; have BK101 := n1_; have GW101 := n2_; have GE101 := n3_; clear n0_ n1_ n2_ n3_; clear hb hbox hg; have hcz3_0 : w2.cell? ⟨gb101, 0, none⟩ = some (.int .i64 a0_0) := (blk_cell BK101.out 0).trans rfl; have hcz3_1 : w2.cell? ⟨gb101, 1, none⟩ = some (.slice A0_1 l0_1.length c0_1) := (blk_cell BK101.out 1).trans rfl; have hfz3_0 := blk_frozen BK101.out 0; have hfz3_1 := blk_frozen BK101.out 1))
 go_loopg [3, 11] k (fun kq v3 v11 w' => ∃ (x3_1 : Int) (x11_1 : Int), v3 = .int .i64 x3_1 ∧ v11 = .int .i64 x11_1 ∧ Aside0 (window_May.l0 kq x3_1 l0_1 (l0_1.length : Int) x11_1 a0_0 l0_1 = some r) ∧ Aside0 (kq ≤ k) ∧ Aside0 (w'.heap[gb101]? = some (.cells #[.int .i64 a0_0, (.slice A0_1 l0_1.length c0_1)] 24 (0, 0))) ∧ Aside0 (Below w.heap.size w w'))
 case atStart => exact ⟨(a0_0), (0), (by first | rfl | (simp; done) | (simp [*]; done)), (by first | rfl | (simp; done) | (simp [*]; done)), H', ⟨Nat.le_refl _⟩, ⟨by (with_reducible repeat (first | refine blk_drewN ?_ _ | refine blk_drew ?_ | refine blk_alloc ?_ _)); exact BK101.out⟩, ⟨by repeat (first | (with_reducible first | exact HB.out | apply below_alloc | apply Z2e | apply below_drew1 | refine below_set ?_ GE101.out) | exact HB.out)⟩⟩
 case round =>
  clear H'
  try clear c1
  try clear p2
  try clear hcz3_0
  try clear hcz3_1
  try clear hfz3_0
  try clear hfz3_1
  obtain ⟨x3_1, x11_1, rfl, rfl, HA, HK1, BK101, HB⟩ := hrel
  cases gk with
  | zero => exact absurd HA.out (by simp [window_May.l0])
  | succ k1 =>
   have H := HA.out
   clear HA
   simp only [window_May.l0] at H
   by_cases c4 : x11_1 < (l0_1.length : Int)
   ·
    rw [if_pos c4] at H
    have c4b0 : decide (x11_1 < (l0_1.length : Int)) = true := decide_eq_true c4
    clear c4
    by_cases c5 : 0 ≤ x11_1
    ·
     rw [if_pos c5] at H
     have c5b0 : decide (0 ≤ x11_1) = true := decide_eq_true c5
     clear c5
     by_cases c6 : x11_1 < (l0_1.length : Int)
     ·
      rw [if_pos c6] at H
      have c6b0 : decide (x11_1 < (l0_1.length : Int)) = true := decide_eq_true c6
      clear c6
      by_cases c7 : ((rd_T42 l0_1 x11_1).f0) ≤ x3_1
      ·
       rw [if_pos c7] at H
       have c7b0 : decide (((rd_T42 l0_1 x11_1).f0) ≤ x3_1) = true := decide_eq_true c7
       clear c7
       obtain rfl := Option.some.inj H
       have p102 : 0 ≤ (x11_1 : Int) := of_decide_eq_true (by first | (with_reducible assumption) | assumption)
       have q102 : x11_1 < (l0_1.length : Int) := of_decide_eq_true (by first | (with_reducible assumption) | assumption)
       obtain ⟨ad102, e102, hx102_0, hx102_1, hx102_2, hx102_3⟩ := at_T42 HR0_1.out x11_1 p102 q102
       cases e102
       replace hx102_0 := (HB.out.cell (Z2d w _ hx102_0)).trans hx102_0
       replace hx102_1 := (HB.out.cell (Z2d w _ hx102_1)).trans hx102_1
       replace hx102_2 := (HB.out.cell (Z2d w _ hx102_2)).trans hx102_2
       replace hx102_3 := (HB.out.cell (Z2d w _ hx102_3)).trans hx102_3
       replace p102 := eq_true p102
       replace q102 := eq_true q102
       go_wp2_with (first | ((with_reducible refine gate_dst (N := 5) rfl ?_); (try (refine gate_guard (by rfl) ?_; dsimp only)); refine box_event ?hg (N := 5) ?hd (cs := #[.int .i64 0, .int .i64 0, .int .i64 0, .string (⟨#[]⟩ : ByteArray)]) (t := 42) ?hr ?_; (case hd => rfl); (case hg => rfl); (case hr => first | (go_simp; done) | (go_simp; rfl)); intro gb103 hg w8 hbox hb; have n0_ := Aside0.mk (blk_below (g := gb101) (o := .cells #[.int .i64 a0_0, .slice (some ad102) l0_1.length c0_1] 24 (0, 0)) (by (with_reducible repeat (first | refine blk_drewN ?_ _ | refine blk_drew ?_ | refine blk_alloc ?_ _)); exact BK101.out) hb); have n1_ := Aside0.mk (below_step (by repeat (first | (with_reducible first | exact HB.out | apply below_alloc | apply Z2e | apply below_drew1 | refine below_set ?_ GE101.out) | exact HB.out)) hb); have n2_ := Aside0.mk (hbox); have n3_ := Aside0.mk ((by rw [hg]; exact (below_size (by repeat (first | (with_reducible first | exact HB.out | apply below_alloc | apply Z2e | apply below_drew1 | refine below_set ?_ GE101.out) | exact HB.out))) : w.heap.size ≤ gb103)); have n4_ := Aside0.mk ((by rw [hg]; exact (below_size (by repeat (first | (with_reducible first | exact HB.out | apply below_alloc | apply Z2e | apply below_drew1 | refine below_set ?_ GE101.out) | exact HB.out))) : w.heap.size ≤ gb103)); have n5_ := Aside0.mk ((by rw [hg]; exact Nat.ne_of_lt (blk_lt (g := gb101) (o := .cells #[.int .i64 a0_0, .slice (some ad102) l0_1.length c0_1] 24 (0, 0)) (by (with_reducible repeat (first | refine blk_drewN ?_ _ | refine blk_drew ?_ | refine blk_alloc ?_ _)); exact BK101.out)) : gb101 ≠ gb103)); have n6_ := Aside0.mk ((by rw [hg]; exact Nat.ne_of_gt (blk_lt (g := gb101) (o := .cells #[.int .i64 a0_0, .slice (some ad102) l0_1.length c0_1] 24 (0, 0)) (by (with_reducible repeat (first | refine blk_drewN ?_ _ | refine blk_drew ?_ | refine blk_alloc ?_ _)); exact BK101.out)) : gb103 ≠ gb101)); clear BK101; clear HB; have BK101 := n0_; have HB := n1_; have BK103 := n2_; have GW103 := n3_; have GE103 := n4_; have NB101_103 := n5_; have NB103_101 := n6_; clear n0_ n1_ n2_ n3_ n4_ n5_ n6_; clear hb hbox hg; have hnb9 := NB103_101.out; have hnc9 := NB101_103.out; have hcz10_0 : w8.cell? ⟨gb103, 0, none⟩ = some (.int .i64 0) := (blk_cell BK103.out 0).trans rfl; have hcz10_1 : w8.cell? ⟨gb103, 1, none⟩ = some (.int .i64 0) := (blk_cell BK103.out 1).trans rfl; have hcz10_2 : w8.cell? ⟨gb103, 2, none⟩ = some (.int .i64 0) := (blk_cell BK103.out 2).trans rfl; have hcz10_3 : w8.cell? ⟨gb103, 3, none⟩ = some (.string (⟨#[]⟩ : ByteArray)) := (blk_cell BK103.out 3).trans rfl; have hfz10_0 := blk_frozen BK103.out 0; have hfz10_1 := blk_frozen BK103.out 1; have hfz10_2 := blk_frozen BK103.out 2; have hfz10_3 := blk_frozen BK103.out 3))
       go_ret
       exact ⟨by first | rfl | (simp [errW_none, errW_some] <;> rfl) | (simp [*, errW_none, errW_some] <;> rfl), by repeat (first | (with_reducible first | exact HB.out | apply below_alloc | apply Z2e | apply below_drew1 | refine below_set ?_ GE101.out | refine below_set ?_ GE103.out) | exact HB.out)⟩
      ·
       rw [if_neg c7] at H
       have c7b0 : decide (((rd_T42 l0_1 x11_1).f0) ≤ x3_1) = false := decide_eq_false c7
       clear c7
       by_cases c11 : ((rd_T42 l0_1 x11_1).f0) > 1073741824
       ·
        rw [if_pos c11] at H
        have c11b0 : decide (1073741824 < ((rd_T42 l0_1 x11_1).f0)) = true := decide_eq_true c11
        clear c11
        obtain rfl := Option.some.inj H
        have p102 : 0 ≤ (x11_1 : Int) := of_decide_eq_true (by first | (with_reducible assumption) | assumption)
        have q102 : x11_1 < (l0_1.length : Int) := of_decide_eq_true (by first | (with_reducible assumption) | assumption)
        obtain ⟨ad102, e102, hx102_0, hx102_1, hx102_2, hx102_3⟩ := at_T42 HR0_1.out x11_1 p102 q102
        cases e102
        replace hx102_0 := (HB.out.cell (Z2d w _ hx102_0)).trans hx102_0
        replace hx102_1 := (HB.out.cell (Z2d w _ hx102_1)).trans hx102_1
        replace hx102_2 := (HB.out.cell (Z2d w _ hx102_2)).trans hx102_2
        replace hx102_3 := (HB.out.cell (Z2d w _ hx102_3)).trans hx102_3
        replace p102 := eq_true p102
        replace q102 := eq_true q102
        go_wp2_with (first | ((with_reducible refine gate_dst (N := 5) rfl ?_); (try (refine gate_guard (by rfl) ?_; dsimp only)); refine box_event ?hg (N := 5) ?hd (cs := #[.int .i64 0, .int .i64 0, .int .i64 0, .string (⟨#[]⟩ : ByteArray)]) (t := 42) ?hr ?_; (case hd => rfl); (case hg => rfl); (case hr => first | (go_simp; done) | (go_simp; rfl)); intro gb103 hg w12 hbox hb; have n0_ := Aside0.mk (blk_below (g := gb101) (o := .cells #[.int .i64 a0_0, .slice (some ad102) l0_1.length c0_1] 24 (0, 0)) (by (with_reducible repeat (first | refine blk_drewN ?_ _ | refine blk_drew ?_ | refine blk_alloc ?_ _)); exact BK101.out) hb); have n1_ := Aside0.mk (below_step (by repeat (first | (with_reducible first | exact HB.out | apply below_alloc | apply Z2e | apply below_drew1 | refine below_set ?_ GE101.out) | exact HB.out)) hb); have n2_ := Aside0.mk (hbox); have n3_ := Aside0.mk ((by rw [hg]; exact (below_size (by repeat (first | (with_reducible first | exact HB.out | apply below_alloc | apply Z2e | apply below_drew1 | refine below_set ?_ GE101.out) | exact HB.out))) : w.heap.size ≤ gb103)); have n4_ := Aside0.mk ((by rw [hg]; exact (below_size (by repeat (first | (with_reducible first | exact HB.out | apply below_alloc | apply Z2e | apply below_drew1 | refine below_set ?_ GE101.out) | exact HB.out))) : w.heap.size ≤ gb103)); have n5_ := Aside0.mk ((by rw [hg]; exact Nat.ne_of_lt (blk_lt (g := gb101) (o := .cells #[.int .i64 a0_0, .slice (some ad102) l0_1.length c0_1] 24 (0, 0)) (by (with_reducible repeat (first | refine blk_drewN ?_ _ | refine blk_drew ?_ | refine blk_alloc ?_ _)); exact BK101.out)) : gb101 ≠ gb103)); have n6_ := Aside0.mk ((by rw [hg]; exact Nat.ne_of_gt (blk_lt (g := gb101) (o := .cells #[.int .i64 a0_0, .slice (some ad102) l0_1.length c0_1] 24 (0, 0)) (by (with_reducible repeat (first | refine blk_drewN ?_ _ | refine blk_drew ?_ | refine blk_alloc ?_ _)); exact BK101.out)) : gb103 ≠ gb101)); clear BK101; clear HB; have BK101 := n0_; have HB := n1_; have BK103 := n2_; have GW103 := n3_; have GE103 := n4_; have NB101_103 := n5_; have NB103_101 := n6_; clear n0_ n1_ n2_ n3_ n4_ n5_ n6_; clear hb hbox hg; have hnb13 := NB103_101.out; have hnc13 := NB101_103.out; have hcz14_0 : w12.cell? ⟨gb103, 0, none⟩ = some (.int .i64 0) := (blk_cell BK103.out 0).trans rfl; have hcz14_1 : w12.cell? ⟨gb103, 1, none⟩ = some (.int .i64 0) := (blk_cell BK103.out 1).trans rfl; have hcz14_2 : w12.cell? ⟨gb103, 2, none⟩ = some (.int .i64 0) := (blk_cell BK103.out 2).trans rfl; have hcz14_3 : w12.cell? ⟨gb103, 3, none⟩ = some (.string (⟨#[]⟩ : ByteArray)) := (blk_cell BK103.out 3).trans rfl; have hfz14_0 := blk_frozen BK103.out 0; have hfz14_1 := blk_frozen BK103.out 1; have hfz14_2 := blk_frozen BK103.out 2; have hfz14_3 := blk_frozen BK103.out 3))
        go_ret
        exact ⟨by first | rfl | (simp [errW_none, errW_some] <;> rfl) | (simp [*, errW_none, errW_some] <;> rfl), by repeat (first | (with_reducible first | exact HB.out | apply below_alloc | apply Z2e | apply below_drew1 | refine below_set ?_ GE101.out | refine below_set ?_ GE103.out) | exact HB.out)⟩
       ·
        rw [if_neg c11] at H
        have c11b0 : decide (1073741824 < ((rd_T42 l0_1 x11_1).f0)) = false := decide_eq_false c11
        clear c11
        have H' := Aside0.mk H
        clear H
        have p102 : 0 ≤ (x11_1 : Int) := of_decide_eq_true (by first | (with_reducible assumption) | assumption)
        have q102 : x11_1 < (l0_1.length : Int) := of_decide_eq_true (by first | (with_reducible assumption) | assumption)
        obtain ⟨ad102, e102, hx102_0, hx102_1, hx102_2, hx102_3⟩ := at_T42 HR0_1.out x11_1 p102 q102
        cases e102
        replace hx102_0 := (HB.out.cell (Z2d w _ hx102_0)).trans hx102_0
        replace hx102_1 := (HB.out.cell (Z2d w _ hx102_1)).trans hx102_1
        replace hx102_2 := (HB.out.cell (Z2d w _ hx102_2)).trans hx102_2
        replace hx102_3 := (HB.out.cell (Z2d w _ hx102_3)).trans hx102_3
        replace p102 := eq_true p102
        replace q102 := eq_true q102
        go_wp2_with (first | ((with_reducible refine gate_dst (N := 5) rfl ?_); (try (refine gate_guard (by rfl) ?_; dsimp only)); refine box_event ?hg (N := 5) ?hd (cs := #[.int .i64 0, .int .i64 0, .int .i64 0, .string (⟨#[]⟩ : ByteArray)]) (t := 42) ?hr ?_; (case hd => rfl); (case hg => rfl); (case hr => first | (go_simp; done) | (go_simp; rfl)); intro gb103 hg w15 hbox hb; have n0_ := Aside0.mk (blk_below (g := gb101) (o := .cells #[.int .i64 a0_0, .slice (some ad102) l0_1.length c0_1] 24 (0, 0)) (by (with_reducible repeat (first | refine blk_drewN ?_ _ | refine blk_drew ?_ | refine blk_alloc ?_ _)); exact BK101.out) hb); have n1_ := Aside0.mk (below_step (by repeat (first | (with_reducible first | exact HB.out | apply below_alloc | apply Z2e | apply below_drew1 | refine below_set ?_ GE101.out) | exact HB.out)) hb); have n2_ := Aside0.mk (hbox); have n3_ := Aside0.mk ((by rw [hg]; exact (below_size (by repeat (first | (with_reducible first | exact HB.out | apply below_alloc | apply Z2e | apply below_drew1 | refine below_set ?_ GE101.out) | exact HB.out))) : w.heap.size ≤ gb103)); have n4_ := Aside0.mk ((by rw [hg]; exact (below_size (by repeat (first | (with_reducible first | exact HB.out | apply below_alloc | apply Z2e | apply below_drew1 | refine below_set ?_ GE101.out) | exact HB.out))) : w.heap.size ≤ gb103)); have n5_ := Aside0.mk ((by rw [hg]; exact Nat.ne_of_lt (blk_lt (g := gb101) (o := .cells #[.int .i64 a0_0, .slice (some ad102) l0_1.length c0_1] 24 (0, 0)) (by (with_reducible repeat (first | refine blk_drewN ?_ _ | refine blk_drew ?_ | refine blk_alloc ?_ _)); exact BK101.out)) : gb101 ≠ gb103)); have n6_ := Aside0.mk ((by rw [hg]; exact Nat.ne_of_gt (blk_lt (g := gb101) (o := .cells #[.int .i64 a0_0, .slice (some ad102) l0_1.length c0_1] 24 (0, 0)) (by (with_reducible repeat (first | refine blk_drewN ?_ _ | refine blk_drew ?_ | refine blk_alloc ?_ _)); exact BK101.out)) : gb103 ≠ gb101)); clear BK101; clear HB; have BK101 := n0_; have HB := n1_; have BK103 := n2_; have GW103 := n3_; have GE103 := n4_; have NB101_103 := n5_; have NB103_101 := n6_; clear n0_ n1_ n2_ n3_ n4_ n5_ n6_; clear hb hbox hg; have hnb16 := NB103_101.out; have hnc16 := NB101_103.out; have hcz17_0 : w15.cell? ⟨gb103, 0, none⟩ = some (.int .i64 0) := (blk_cell BK103.out 0).trans rfl; have hcz17_1 : w15.cell? ⟨gb103, 1, none⟩ = some (.int .i64 0) := (blk_cell BK103.out 1).trans rfl; have hcz17_2 : w15.cell? ⟨gb103, 2, none⟩ = some (.int .i64 0) := (blk_cell BK103.out 2).trans rfl; have hcz17_3 : w15.cell? ⟨gb103, 3, none⟩ = some (.string (⟨#[]⟩ : ByteArray)) := (blk_cell BK103.out 3).trans rfl; have hfz17_0 := blk_frozen BK103.out 0; have hfz17_1 := blk_frozen BK103.out 1; have hfz17_2 := blk_frozen BK103.out 2; have hfz17_3 := blk_frozen BK103.out 3))
        go_roundg k1
        case measure => have := HK1.out; omega
        case rel => exact ⟨((rd_T42 l0_1 x11_1).f0), (wrap64 (x11_1 + 1)), (by first | rfl | (simp; done) | (simp [*]; done)), (by first | rfl | (simp; done) | (simp [*]; done)), H', ⟨by have := HK1.out; omega⟩, ⟨by (with_reducible repeat (first | refine blk_drewN ?_ _ | refine blk_drew ?_ | refine blk_alloc ?_ _)); refine blk_far ?_ NB101_103.out _; (with_reducible repeat (first | refine blk_drewN ?_ _ | refine blk_drew ?_ | refine blk_alloc ?_ _)); refine blk_far ?_ NB101_103.out _; (with_reducible repeat (first | refine blk_drewN ?_ _ | refine blk_drew ?_ | refine blk_alloc ?_ _)); refine blk_far ?_ NB101_103.out _; (with_reducible repeat (first | refine blk_drewN ?_ _ | refine blk_drew ?_ | refine blk_alloc ?_ _)); refine blk_far ?_ NB101_103.out _; (with_reducible repeat (first | refine blk_drewN ?_ _ | refine blk_drew ?_ | refine blk_alloc ?_ _)); exact BK101.out⟩, ⟨by repeat (first | (with_reducible first | exact HB.out | apply below_alloc | apply Z2e | apply below_drew1 | refine below_set ?_ GE101.out | refine below_set ?_ GE103.out) | exact HB.out)⟩⟩
     ·
      rw [if_neg c6] at H
      exact absurd H (by simp)
    ·
     rw [if_neg c5] at H
     exact absurd H (by simp)
   ·
    rw [if_neg c4] at H
    have c4b0 : decide (x11_1 < (l0_1.length : Int)) = false := decide_eq_false c4
    clear c4
    by_cases c18 : a0_0 ≥ 0
    ·
     rw [if_pos c18] at H
     have c18b0 : decide (0 ≤ a0_0) = true := decide_eq_true c18
     clear c18
     by_cases c19 : a0_0 ≤ 1073741824
     ·
      rw [if_pos c19] at H
      have c19b0 : decide (a0_0 ≤ 1073741824) = true := decide_eq_true c19
      clear c19
      obtain rfl := Option.some.inj H
      have hcz20_0 : wr.cell? ⟨gb101, 0, none⟩ = some (.int .i64 a0_0) := (blk_cell BK101.out 0).trans rfl
      have hcz20_1 : wr.cell? ⟨gb101, 1, none⟩ = some (.slice A0_1 l0_1.length c0_1) := (blk_cell BK101.out 1).trans rfl
      have hfz20_0 := blk_frozen BK101.out 0
      have hfz20_1 := blk_frozen BK101.out 1
      go_wp2
      go_ret
      exact ⟨by first | rfl | (simp [errW_none, errW_some] <;> rfl) | (simp [*, errW_none, errW_some] <;> rfl), by repeat (first | (with_reducible first | exact HB.out | apply below_alloc | apply Z2e | apply below_drew1 | refine below_set ?_ GE101.out) | exact HB.out)⟩
     ·
      rw [if_neg c19] at H
      have c19b0 : decide (a0_0 ≤ 1073741824) = false := decide_eq_false c19
      clear c19
      obtain rfl := Option.some.inj H
      have hcz21_0 : wr.cell? ⟨gb101, 0, none⟩ = some (.int .i64 a0_0) := (blk_cell BK101.out 0).trans rfl
      have hcz21_1 : wr.cell? ⟨gb101, 1, none⟩ = some (.slice A0_1 l0_1.length c0_1) := (blk_cell BK101.out 1).trans rfl
      have hfz21_0 := blk_frozen BK101.out 0
      have hfz21_1 := blk_frozen BK101.out 1
      go_wp2
      go_ret
      exact ⟨by first | rfl | (simp [errW_none, errW_some] <;> rfl) | (simp [*, errW_none, errW_some] <;> rfl), by repeat (first | (with_reducible first | exact HB.out | apply below_alloc | apply Z2e | apply below_drew1 | refine below_set ?_ GE101.out) | exact HB.out)⟩
    ·
     rw [if_neg c18] at H
     have c18b0 : decide (0 ≤ a0_0) = false := decide_eq_false c18
     clear c18
     obtain rfl := Option.some.inj H
     have hcz22_0 : wr.cell? ⟨gb101, 0, none⟩ = some (.int .i64 a0_0) := (blk_cell BK101.out 0).trans rfl
     have hcz22_1 : wr.cell? ⟨gb101, 1, none⟩ = some (.slice A0_1 l0_1.length c0_1) := (blk_cell BK101.out 1).trans rfl
     have hfz22_0 := blk_frozen BK101.out 0
     have hfz22_1 := blk_frozen BK101.out 1
     go_wp2
     go_ret
     exact ⟨by first | rfl | (simp [errW_none, errW_some] <;> rfl) | (simp [*, errW_none, errW_some] <;> rfl), by repeat (first | (with_reducible first | exact HB.out | apply below_alloc | apply Z2e | apply below_drew1 | refine below_set ?_ GE101.out) | exact HB.out)⟩

/-! ### window_find: function 17 -/
def e42 (x : S42) : List Value := [.int .i64 x.f0, .int .i64 x.f1.f0, .int .i64 x.f1.f1, .string x.f1.f2]
theorem flat42 : Go.SX.Flat k42 e42 := ⟨fun _ => rfl, by simp [e42, Go.SX.flat], fun w x cs => ⟨k42_open, fun h => h ▸ k42_mk w x⟩, (by decide : 0 < 4)⟩
def tlOf (x : S42) : F.Tl := (x.f0, x.f1.f0, x.f1.f1, x.f1.f2)
theorem cells_tls (l : List S42) : Go.SX.cellsOf e42 l = F.tls (l.map tlOf) := by simp [Go.SX.cellsOf, F.tls, e42, tlOf]
theorem tlOf_fst (l : List S42) : (l.map tlOf).map (·.1) = l.map (·.f0) := by simp [tlOf]
theorem arg_row {w : World} {A : Option Addr} {c : Nat} {l : List S42} (h : Kd.C k42 w A l.length l) (hc : l.length ≤ c) : Go.SX.VRel w (Go.SX.OwnBy (fun _ => False) fun _ => none) (fun _ => none) (.ro 4 (F.tls (l.map tlOf))) (.slice A l.length c) := by
 have := flat42.tree h hc (Own := Go.SX.OwnBy (fun _ => False) fun _ => none) (fun k hk => by rcases hk with hk | ⟨_, _, hk⟩; exact hk; cases hk)
 rw [cells_tls] at this
 exact .tree this
def window_find.f (l0 : List S42) (a1 : Int) : Option (Int × Bool) :=
 if (l0.map (·.f0)).Pairwise (· < ·) ∧ l0.length < 1000000 then some ((F.cnt (l0.map (·.f0)) a1 : Int), decide (a1 ∈ l0.map (·.f0))) else none
theorem find_does (l : List S42) (y : Int) (r1 : Int) (r2 : Bool) (h : window_find.f l y = some (r1, r2)) : F.DoesT 17 [.ro 4 (F.tls (l.map tlOf)), Go.SX.iv y] (.tup [Go.SX.iv r1, Go.SX.bv r2]) ∧ ∃ p : Nat, r1 = p ∧ p ≤ l.length := by
 unfold window_find.f at h
 split at h
 ·
  rename_i hc
  have hu : F.Up (l.map tlOf) := fun i j hi hj hij => by
   have := List.pairwise_iff_getElem.1 hc.1 i j (by simpa using hi) (by simpa using hj) hij
   simpa [tlOf] using this
  obtain ⟨p, f, hA, hD⟩ := F.d20 (l.map tlOf) y hu (by simpa using hc.2)
  obtain ⟨h1, h2⟩ := F.at_cnt hu hA
  rw [tlOf_fst] at h1 h2
  injection h with h; injection h with e1 e2
  subst e1; subst e2; rw [← h1, ← h2]
  exact ⟨F.d17 _ _ _ _ hD, p, rfl, by simpa using hA.1⟩
 ·
  cases h
theorem window_find.calls (A0 : Option Addr) (c0 : Nat) (l0 : List S42) (a1 : Int) (r1 : Int) (r2 : Bool) (w : World) (hr0 : Kd.C k42 w A0 l0.length l0) (hc0 : l0.length ≤ c0) (h : window_find.f l0 a1 = some (r1, r2)) :
 Calls Try.prog 17 #[.slice A0 l0.length c0, .int .i64 a1] w fun e w' => e = .returned (.tuple #[.int .i64 r1, .bool r2]) ∧ Below w.heap.size w w' := by
 refine ((find_does l0 a1 r1 r2 h).1.calls (vs := #[.slice A0 l0.length c0, .int .i64 a1]) rfl (fun i x hx => ?_)).mono ?_
 ·
  match i, hx with
  | 0, hx => injection hx with hx; subst hx; exact arg_row hr0 hc0
  | 1, hx => injection hx with hx; subst hx; exact .tree (.lit rfl)
  | (i + 2), hx => simp at hx
 ·
  rintro e w' ⟨v, r, m, ρ', rfl, ⟨rfl, rfl⟩, hM, hv, hA⟩
  obtain ⟨us, rfl, hul, hus⟩ := hv.tup_inv
  obtain ⟨e0, _⟩ := (hus 0 _ rfl).lit_inv
  obtain ⟨e1, _⟩ := (hus 1 _ rfl).lit_inv
  rw [Go.SX.arr2 (by simpa using hul.symm) e0 e1]
  exact ⟨rfl, hA.below⟩


/-! ### window_Look: function 10 -/
def window_Look.j0 : Nat → Int → Bool → Int → List (S42) → Option (Int × Int × ByteArray × Bool × Int)
 | 0, _, _, _, _ => none
 | k + 1, x1, x9, x105000, x105001 => if x9 = true then (some (0, 0, (⟨#[]⟩ : ByteArray), false, 1)) else (if x1 ≤ x105000 then (some (0, 0, (⟨#[]⟩ : ByteArray), false, 9)) else ((window_find.f x105001 x1).bind fun bt107 => (if bt107.2 = true then (if 0 ≤ bt107.1 then (if bt107.1 < (x105001.length : Int) then (some ((rd_T42 x105001 bt107.1).f1.f0, (rd_T42 x105001 bt107.1).f1.f1, (rd_T42 x105001 bt107.1).f1.f2, true, 0)) else (none)) else (none)) else (some (0, 0, (⟨#[]⟩ : ByteArray), false, 0)))))
def window_Look.f (k : Nat) (a0_0 : Int) (l0_1 : List (S42)) (a1 : Int) : Option (Int × Int × ByteArray × Bool × Int) := (window_May.f k a0_0 l0_1).bind fun t106 => (if t106 = true then (if a1 < 1 then (window_Look.j0 k a1 true a0_0 l0_1) else (window_Look.j0 k a1 (decide (a1 > 1073741824)) a0_0 l0_1)) else (window_Look.j0 k a1 true a0_0 l0_1))
theorem window_Look.mono_l : ∀ k, (∀ y0 y1 y2 y3, LeO (window_Look.j0 k y0 y1 y2 y3) (window_Look.j0 (k + 1) y0 y1 y2 y3))
 | 0 => fun _ _ _ _ r h => by simp [window_Look.j0] at h
 | k + 1 => by
  have ih0 := window_Look.mono_l k
  ·
   intro y0 y1 y2 y3
   unfold window_Look.j0
   repeat' first
   | (with_reducible exact ih0 _ _ _ _)
   | (with_reducible exact window_May.mono _ _ _)
   | (with_reducible exact LeO.refl _)
   | (with_reducible exact LeO.none _)
   | (with_reducible refine LeO.ite ?_ ?_)
   | (with_reducible refine LeO.bind ?_ (fun _ => ?_))
   | exact ih0 _ _ _ _
   | exact window_May.mono _ _ _
   | exact LeO.none _
   | refine LeO.ite ?_ ?_
   | refine LeO.bind ?_ (fun _ => ?_)
theorem window_Look.mono : ∀ a0 a1 a2 k, LeO (window_Look.f k a0 a1 a2) (window_Look.f (k + 1) a0 a1 a2) := by
 intro a0 a1 a2 k
 have ih0 := window_Look.mono_l k
 unfold window_Look.f
 repeat' first
  | (with_reducible exact ih0 _ _ _ _)
  | (with_reducible exact window_May.mono _ _ _)
  | (with_reducible exact LeO.refl _)
  | (with_reducible exact LeO.none _)
  | (with_reducible refine LeO.ite ?_ ?_)
  | (with_reducible refine LeO.bind ?_ (fun _ => ?_))
  | exact ih0 _ _ _ _
  | exact window_May.mono _ _ _
  | exact LeO.none _
  | refine LeO.ite ?_ ?_
  | refine LeO.bind ?_ (fun _ => ?_)
set_option maxHeartbeats 8000000 in
set_option maxRecDepth 100000 in
theorem window_Look.calls (k : Nat) (a0_0 : Int) (A0_1 : Option Addr) (c0_1 : Nat) (l0_1 : List (S42)) (a1 : Int) (r1 : Int) (r2 : Int) (r3 : ByteArray) (r4 : Bool) (r5 : Int) (w : World) (hr0_1 : Kd.C k42 w A0_1 l0_1.length l0_1) (hc0_1 : l0_1.length ≤ c0_1) (h : window_Look.f k a0_0 l0_1 a1 = some (r1, r2, r3, r4, r5)) :
 Calls Try.prog 10 #[.agg #[.int .i64 a0_0, .slice A0_1 l0_1.length c0_1], .int .i64 a1] w fun e w' => e = .returned (.tuple #[.agg #[.int .i64 r1, .int .i64 r2, .string r3], .bool r4, .int .i64 r5]) ∧ Below w.heap.size w w' := by
 have hu24 := Try.underlying24
 have hu27 := Try.underlying27
 have HR0_1 := Aside0.mk hr0_1
 have HC0_1 := Aside0.mk hc0_1
 clear hr0_1 hc0_1
 have HB := Aside0.mk (Below.refl w.heap.size w)
 have H : ((window_May.f k a0_0 l0_1).bind fun t106 => (if t106 = true then (if a1 < 1 then (window_Look.j0 k a1 true a0_0 l0_1) else (window_Look.j0 k a1 (decide (a1 > 1073741824)) a0_0 l0_1)) else (window_Look.j0 k a1 true a0_0 l0_1))) = some (r1, r2, r3, r4, r5) := h
 clear h
 have HC3 := Aside0.mk H
 clear H
 go_enter Try.func10, Try.ntmps10
 go_upto_region 1 with (first | ((with_reducible refine gate_dst (N := 2) rfl ?_); refine box_event ?hg (N := 2) ?hd (cs := #[.int .i64 a0_0, .slice A0_1 l0_1.length c0_1]) (t := 24) ?hr ?_; (case hd => rfl); (case hg => rfl); (case hr => first | (go_simp; done) | (go_simp; rfl)); intro gb104 hg w4 hbox hb; have n0_ := Aside0.mk (below_step (by repeat (first | (with_reducible first | exact HB.out | apply below_alloc | apply Z2e | apply below_drew1) | exact HB.out)) hb); have n1_ := Aside0.mk (hbox); have n2_ := Aside0.mk ((by rw [hg]; exact (below_size (by repeat (first | (with_reducible first | exact HB.out | apply below_alloc | apply Z2e | apply below_drew1) | exact HB.out))) : w.heap.size ≤ gb104)); have n3_ := Aside0.mk ((by rw [hg]; exact (below_size (by repeat (first | (with_reducible first | exact HB.out | apply below_alloc | apply Z2e | apply below_drew1) | exact HB.out))) : w.heap.size ≤ gb104)); clear HB; have HB := n0_; have BK104 := n1_; have GW104 := n2_; have GE104 := n3_; clear n0_ n1_ n2_ n3_; clear hb hbox hg) | ((with_reducible refine gate_dst (N := 4) rfl ?_); refine box_event ?hg (N := 4) ?hd (cs := #[.int .i64 0, .int .i64 0, .string (⟨#[]⟩ : ByteArray)]) (t := 27) ?hr ?_; (case hd => rfl); (case hg => rfl); (case hr => first | (go_simp; done) | (go_simp; rfl)); intro gb105 hg w5 hbox hb; have n0_ := Aside0.mk (blk_below (g := gb104) (o := .cells #[.int .i64 a0_0, .slice A0_1 l0_1.length c0_1] 24 (0, 0)) (by (with_reducible repeat (first | refine blk_drewN ?_ _ | refine blk_drew ?_ | refine blk_alloc ?_ _)); exact BK104.out) hb); have n1_ := Aside0.mk (below_step (by repeat (first | (with_reducible first | exact HB.out | apply below_alloc | apply Z2e | apply below_drew1 | refine below_set ?_ GE104.out) | exact HB.out)) hb); have n2_ := Aside0.mk (hbox); have n3_ := Aside0.mk ((by rw [hg]; exact (below_size (by repeat (first | (with_reducible first | exact HB.out | apply below_alloc | apply Z2e | apply below_drew1 | refine below_set ?_ GE104.out) | exact HB.out))) : w.heap.size ≤ gb105)); have n4_ := Aside0.mk ((by rw [hg]; exact (below_size (by repeat (first | (with_reducible first | exact HB.out | apply below_alloc | apply Z2e | apply below_drew1 | refine below_set ?_ GE104.out) | exact HB.out))) : w.heap.size ≤ gb105)); have n5_ := Aside0.mk ((by rw [hg]; exact Nat.ne_of_lt (blk_lt (g := gb104) (o := .cells #[.int .i64 a0_0, .slice A0_1 l0_1.length c0_1] 24 (0, 0)) (by (with_reducible repeat (first | refine blk_drewN ?_ _ | refine blk_drew ?_ | refine blk_alloc ?_ _)); exact BK104.out)) : gb104 ≠ gb105)); have n6_ := Aside0.mk ((by rw [hg]; exact Nat.ne_of_gt (blk_lt (g := gb104) (o := .cells #[.int .i64 a0_0, .slice A0_1 l0_1.length c0_1] 24 (0, 0)) (by (with_reducible repeat (first | refine blk_drewN ?_ _ | refine blk_drew ?_ | refine blk_alloc ?_ _)); exact BK104.out)) : gb105 ≠ gb104)); clear BK104; clear HB; have BK104 := n0_; have HB := n1_; have BK105 := n2_; have GW105 := n3_; have GE105 := n4_; have NB104_105 := n5_; have NB105_104 := n6_; clear n0_ n1_ n2_ n3_ n4_ n5_ n6_; clear hb hbox hg))
 (try simp only [Act.put, List.setIfInBounds_toArray, List.set_cons_zero, List.set_cons_succ])
 go_cut [9] (fun v9 wc => ∃ (kq : Nat) (x9_2 : Bool), v9 = .bool x9_2 ∧ Aside0 (window_Look.j0 kq a1 x9_2 a0_0 l0_1 = some (r1, r2, r3, r4, r5)) ∧ Aside0 (kq ≤ k) ∧ Aside0 (wc.heap[gb104]? = some (.cells #[.int .i64 a0_0, (.slice A0_1 l0_1.length c0_1)] 24 (0, 0))) ∧ Aside0 (wc.heap[gb105]? = some (.cells #[.int .i64 0, .int .i64 0, .string (⟨#[]⟩ : ByteArray)] 27 (0, 0))) ∧ Aside0 (Below w.heap.size w wc))
 case first =>
  have H := HC3.out
  clear HC3
  replace H := Option.bind_eq_some_iff.mp H
  obtain ⟨t106, A60, H⟩ := H
  replace H : (if t106 = true then (if a1 < 1 then (window_Look.j0 k a1 true a0_0 l0_1) else (window_Look.j0 k a1 (decide (a1 > 1073741824)) a0_0 l0_1)) else (window_Look.j0 k a1 true a0_0 l0_1)) = some (r1, r2, r3, r4, r5) := H
  have A6 := Aside0.mk A60
  clear A60
  by_cases c7 : t106 = true
  ·
   subst c7
   have H1 : (if a1 < 1 then (window_Look.j0 k a1 true a0_0 l0_1) else (window_Look.j0 k a1 (decide (a1 > 1073741824)) a0_0 l0_1)) = some (r1, r2, r3, r4, r5) := by rw [if_pos rfl] at H; exact H
   clear H
   have H := H1
   clear H1
   by_cases c8 : a1 < 1
   ·
    rw [if_pos c8] at H
    have c8b0 : decide (a1 < 1) = true := decide_eq_true c8
    clear c8
    (first | rw [c8b0] | (simp only [i64_w, i32_w]; rw [c8b0]) | skip)
    have H' := Aside0.mk H
    clear H
    have hnb9 := NB104_105.out
    have hnc9 := NB105_104.out
    have hcz10_0 : w5.cell? ⟨gb104, 0, none⟩ = some (.int .i64 a0_0) := (blk_cell BK104.out 0).trans rfl
    have hcz10_1 : w5.cell? ⟨gb104, 1, none⟩ = some (.slice A0_1 l0_1.length c0_1) := (blk_cell BK104.out 1).trans rfl
    have hfz10_0 := blk_frozen BK104.out 0
    have hfz10_1 := blk_frozen BK104.out 1
    go_wp2_with (first | ((with_reducible refine gate_callee (f := 15) rfl ?_); refine goesL_ (some 11) rfl rfl Try.func15 (by kernel_rfl) rfl #[.agg #[.int .i64 a0_0, .slice A0_1 l0_1.length c0_1]] rfl (by (try simp only [List.map_toArray, List.map_cons, List.map_nil]); first | done | rfl | (simp only [List.length_drop, List.length_take]; rfl)) ?_; (with_reducible refine (window_May.calls k a0_0 _ _ l0_1 true _ ?side1 ?side2 A6.out).mono ?_); (case side1 => repeat (first | exact (Kd.C_below HR0_1.out HB.out) | (with_reducible refine Kd.C_alloc ?_ _) | (with_reducible refine Kd.C_drewN ?_ _) | (with_reducible refine Kd.C_drew ?_))); (case side2 => exact HC0_1.out); rintro e w11 ⟨rfl, hb⟩; refine ⟨_, rfl, ?_⟩; have n0_ := Aside0.mk (blk_below (g := gb104) (o := .cells #[.int .i64 a0_0, .slice A0_1 l0_1.length c0_1] 24 (0, 0)) (by (with_reducible repeat (first | refine blk_drewN ?_ _ | refine blk_drew ?_ | refine blk_alloc ?_ _)); exact BK104.out) hb); have n1_ := Aside0.mk (blk_below (g := gb105) (o := .cells #[.int .i64 0, .int .i64 0, .string (⟨#[]⟩ : ByteArray)] 27 (0, 0)) (by (with_reducible repeat (first | refine blk_drewN ?_ _ | refine blk_drew ?_ | refine blk_alloc ?_ _)); exact BK105.out) hb); have n2_ := Aside0.mk (below_step (by repeat (first | (with_reducible first | exact HB.out | apply below_alloc | apply Z2e | apply below_drew1 | refine below_set ?_ GE104.out | refine below_set ?_ GE105.out) | exact HB.out)) hb); clear BK104; clear BK105; clear HB; have BK104 := n0_; have BK105 := n1_; have HB := n2_; clear n0_ n1_ n2_; (try clear hb); (try clear hb2); (try clear hk); (try clear hi)))
    go_meet
    case rel => exact ⟨_, (true), (by first | rfl | (simp; done) | (simp [*]; done)), H', ⟨by first | omega | exact Nat.le_refl _⟩, ⟨by (with_reducible repeat (first | refine blk_drewN ?_ _ | refine blk_drew ?_ | refine blk_alloc ?_ _)); exact BK104.out⟩, ⟨by (with_reducible repeat (first | refine blk_drewN ?_ _ | refine blk_drew ?_ | refine blk_alloc ?_ _)); exact BK105.out⟩, ⟨by repeat (first | (with_reducible first | exact HB.out | apply below_alloc | apply Z2e | apply below_drew1 | refine below_set ?_ GE104.out | refine below_set ?_ GE105.out) | exact HB.out)⟩⟩
   ·
    rw [if_neg c8] at H
    have c8b0 : decide (a1 < 1) = false := decide_eq_false c8
    clear c8
    (first | rw [c8b0] | (simp only [i64_w, i32_w]; rw [c8b0]) | skip)
    have H' := Aside0.mk H
    clear H
    have hnb12 := NB104_105.out
    have hnc12 := NB105_104.out
    have hcz13_0 : w5.cell? ⟨gb104, 0, none⟩ = some (.int .i64 a0_0) := (blk_cell BK104.out 0).trans rfl
    have hcz13_1 : w5.cell? ⟨gb104, 1, none⟩ = some (.slice A0_1 l0_1.length c0_1) := (blk_cell BK104.out 1).trans rfl
    have hfz13_0 := blk_frozen BK104.out 0
    have hfz13_1 := blk_frozen BK104.out 1
    go_wp2_with (first | ((with_reducible refine gate_callee (f := 15) rfl ?_); refine goesL_ (some 11) rfl rfl Try.func15 (by kernel_rfl) rfl #[.agg #[.int .i64 a0_0, .slice A0_1 l0_1.length c0_1]] rfl (by (try simp only [List.map_toArray, List.map_cons, List.map_nil]); first | done | rfl | (simp only [List.length_drop, List.length_take]; rfl)) ?_; (with_reducible refine (window_May.calls k a0_0 _ _ l0_1 true _ ?side1 ?side2 A6.out).mono ?_); (case side1 => repeat (first | exact (Kd.C_below HR0_1.out HB.out) | (with_reducible refine Kd.C_alloc ?_ _) | (with_reducible refine Kd.C_drewN ?_ _) | (with_reducible refine Kd.C_drew ?_))); (case side2 => exact HC0_1.out); rintro e w14 ⟨rfl, hb⟩; refine ⟨_, rfl, ?_⟩; have n0_ := Aside0.mk (blk_below (g := gb104) (o := .cells #[.int .i64 a0_0, .slice A0_1 l0_1.length c0_1] 24 (0, 0)) (by (with_reducible repeat (first | refine blk_drewN ?_ _ | refine blk_drew ?_ | refine blk_alloc ?_ _)); exact BK104.out) hb); have n1_ := Aside0.mk (blk_below (g := gb105) (o := .cells #[.int .i64 0, .int .i64 0, .string (⟨#[]⟩ : ByteArray)] 27 (0, 0)) (by (with_reducible repeat (first | refine blk_drewN ?_ _ | refine blk_drew ?_ | refine blk_alloc ?_ _)); exact BK105.out) hb); have n2_ := Aside0.mk (below_step (by repeat (first | (with_reducible first | exact HB.out | apply below_alloc | apply Z2e | apply below_drew1 | refine below_set ?_ GE104.out | refine below_set ?_ GE105.out) | exact HB.out)) hb); clear BK104; clear BK105; clear HB; have BK104 := n0_; have BK105 := n1_; have HB := n2_; clear n0_ n1_ n2_; (try clear hb); (try clear hb2); (try clear hk); (try clear hi)))
    go_meet
    case rel => exact ⟨_, (decide (a1 > 1073741824)), (by first | rfl | (simp; done) | (simp [*]; done)), H', ⟨by first | omega | exact Nat.le_refl _⟩, ⟨by (with_reducible repeat (first | refine blk_drewN ?_ _ | refine blk_drew ?_ | refine blk_alloc ?_ _)); exact BK104.out⟩, ⟨by (with_reducible repeat (first | refine blk_drewN ?_ _ | refine blk_drew ?_ | refine blk_alloc ?_ _)); exact BK105.out⟩, ⟨by repeat (first | (with_reducible first | exact HB.out | apply below_alloc | apply Z2e | apply below_drew1 | refine below_set ?_ GE104.out | refine below_set ?_ GE105.out) | exact HB.out)⟩⟩
  ·
   replace c7 := Bool.eq_false_iff.mpr c7
   subst c7
   have H1 : (window_Look.j0 k a1 true a0_0 l0_1) = some (r1, r2, r3, r4, r5) := by rw [if_neg (show ¬ (false = true) by decide)] at H; exact H
   clear H
   have H := H1
   clear H1
   have H' := Aside0.mk H
   clear H
   have hnb15 := NB104_105.out
   have hnc15 := NB105_104.out
   have hcz16_0 : w5.cell? ⟨gb104, 0, none⟩ = some (.int .i64 a0_0) := (blk_cell BK104.out 0).trans rfl
   have hcz16_1 : w5.cell? ⟨gb104, 1, none⟩ = some (.slice A0_1 l0_1.length c0_1) := (blk_cell BK104.out 1).trans rfl
   have hfz16_0 := blk_frozen BK104.out 0
   have hfz16_1 := blk_frozen BK104.out 1
   go_wp2_with (first | ((with_reducible refine gate_callee (f := 15) rfl ?_); refine goesL_ (some 11) rfl rfl Try.func15 (by kernel_rfl) rfl #[.agg #[.int .i64 a0_0, .slice A0_1 l0_1.length c0_1]] rfl (by (try simp only [List.map_toArray, List.map_cons, List.map_nil]); first | done | rfl | (simp only [List.length_drop, List.length_take]; rfl)) ?_; (with_reducible refine (window_May.calls k a0_0 _ _ l0_1 false _ ?side1 ?side2 A6.out).mono ?_); (case side1 => repeat (first | exact (Kd.C_below HR0_1.out HB.out) | (with_reducible refine Kd.C_alloc ?_ _) | (with_reducible refine Kd.C_drewN ?_ _) | (with_reducible refine Kd.C_drew ?_))); (case side2 => exact HC0_1.out); rintro e w17 ⟨rfl, hb⟩; refine ⟨_, rfl, ?_⟩; have n0_ := Aside0.mk (blk_below (g := gb104) (o := .cells #[.int .i64 a0_0, .slice A0_1 l0_1.length c0_1] 24 (0, 0)) (by (with_reducible repeat (first | refine blk_drewN ?_ _ | refine blk_drew ?_ | refine blk_alloc ?_ _)); exact BK104.out) hb); have n1_ := Aside0.mk (blk_below (g := gb105) (o := .cells #[.int .i64 0, .int .i64 0, .string (⟨#[]⟩ : ByteArray)] 27 (0, 0)) (by (with_reducible repeat (first | refine blk_drewN ?_ _ | refine blk_drew ?_ | refine blk_alloc ?_ _)); exact BK105.out) hb); have n2_ := Aside0.mk (below_step (by repeat (first | (with_reducible first | exact HB.out | apply below_alloc | apply Z2e | apply below_drew1 | refine below_set ?_ GE104.out | refine below_set ?_ GE105.out) | exact HB.out)) hb); clear BK104; clear BK105; clear HB; have BK104 := n0_; have BK105 := n1_; have HB := n2_; clear n0_ n1_ n2_; (try clear hb); (try clear hb2); (try clear hk); (try clear hi)))
   go_meet
   case rel => exact ⟨_, (true), (by first | rfl | (simp; done) | (simp [*]; done)), H', ⟨by first | omega | exact Nat.le_refl _⟩, ⟨by (with_reducible repeat (first | refine blk_drewN ?_ _ | refine blk_drew ?_ | refine blk_alloc ?_ _)); exact BK104.out⟩, ⟨by (with_reducible repeat (first | refine blk_drewN ?_ _ | refine blk_drew ?_ | refine blk_alloc ?_ _)); exact BK105.out⟩, ⟨by repeat (first | (with_reducible first | exact HB.out | apply below_alloc | apply Z2e | apply below_drew1 | refine below_set ?_ GE104.out | refine below_set ?_ GE105.out) | exact HB.out)⟩⟩
 case rest =>
  clear HC3
  try clear c1
  try clear p2
  try clear c7
  try clear c8
  try clear c8b0
  try clear c9
  try clear c10
  try clear c12
  try clear c15
  try clear hcz10_0
  try clear hcz10_1
  try clear hcz13_0
  try clear hcz13_1
  try clear hcz16_0
  try clear hcz16_1
  try clear hfz10_0
  try clear hfz10_1
  try clear hfz13_0
  try clear hfz13_1
  try clear hfz16_0
  try clear hfz16_1
  obtain ⟨kq, x9_2, rfl, HA, HJ2, BK104, BK105, HB⟩ := hcut
  cases kq with
  | zero => exact absurd HA.out (by simp [window_Look.j0])
  | succ kj2 =>
   have H := HA.out
   clear HA
   simp only [window_Look.j0] at H
   by_cases c18 : x9_2 = true
   ·
    subst c18
    have H1 : (some (0, 0, (⟨#[]⟩ : ByteArray), false, 1)) = some (r1, r2, r3, r4, r5) := by rw [if_pos rfl] at H; exact H
    clear H
    have H := H1
    clear H1
    simp only [Option.some.injEq, Prod.mk.injEq] at H
    obtain ⟨rfl, rfl, rfl, rfl, rfl⟩ := H
    have hnb19 := NB105_104.out
    have hnc19 := NB104_105.out
    have hcz20_0 : wc.cell? ⟨gb105, 0, none⟩ = some (.int .i64 0) := (blk_cell BK105.out 0).trans rfl
    have hcz20_1 : wc.cell? ⟨gb105, 1, none⟩ = some (.int .i64 0) := (blk_cell BK105.out 1).trans rfl
    have hcz20_2 : wc.cell? ⟨gb105, 2, none⟩ = some (.string (⟨#[]⟩ : ByteArray)) := (blk_cell BK105.out 2).trans rfl
    have hfz20_0 := blk_frozen BK105.out 0
    have hfz20_1 := blk_frozen BK105.out 1
    have hfz20_2 := blk_frozen BK105.out 2
    go_wp2
    refine bodyPost_ret (results_ctt rfl _ _ gb105 27 #[.int .i64 0, .int .i64 0, .string (⟨#[]⟩ : ByteArray)] (0, 0) _ rfl (by (with_reducible repeat (first | refine blk_drewN ?_ _ | refine blk_drew ?_ | refine blk_alloc ?_ _)); refine blk_put (cs := #[.int .i64 0, .int .i64 0, .string (⟨#[]⟩ : ByteArray)]) ?_ 2 _ rfl; (with_reducible repeat (first | refine blk_drewN ?_ _ | refine blk_drew ?_ | refine blk_alloc ?_ _)); refine blk_put (cs := #[.int .i64 0, .int .i64 0, .string (⟨#[]⟩ : ByteArray)]) ?_ 1 _ rfl; (with_reducible repeat (first | refine blk_drewN ?_ _ | refine blk_drew ?_ | refine blk_alloc ?_ _)); refine blk_put (cs := #[.int .i64 0, .int .i64 0, .string (⟨#[]⟩ : ByteArray)]) ?_ 0 _ rfl; (with_reducible repeat (first | refine blk_drewN ?_ _ | refine blk_drew ?_ | refine blk_alloc ?_ _)); exact BK105.out) Try.underlying27 rfl (by kernel_rfl)) rfl ?_
    exact ⟨by first | rfl | (simp [errW_none, errW_some] <;> rfl) | (simp [*, errW_none, errW_some] <;> rfl), by repeat (first | (with_reducible first | exact HB.out | apply below_alloc | apply Z2e | apply below_drew1 | refine below_set ?_ GE104.out | refine below_set ?_ GE105.out) | exact HB.out)⟩
   ·
    replace c18 := Bool.eq_false_iff.mpr c18
    subst c18
    have H1 : (if a1 ≤ a0_0 then (some (0, 0, (⟨#[]⟩ : ByteArray), false, 9)) else ((window_find.f l0_1 a1).bind fun bt107 => (if bt107.2 = true then (if 0 ≤ bt107.1 then (if bt107.1 < (l0_1.length : Int) then (some ((rd_T42 l0_1 bt107.1).f1.f0, (rd_T42 l0_1 bt107.1).f1.f1, (rd_T42 l0_1 bt107.1).f1.f2, true, 0)) else (none)) else (none)) else (some (0, 0, (⟨#[]⟩ : ByteArray), false, 0))))) = some (r1, r2, r3, r4, r5) := by rw [if_neg (show ¬ (false = true) by decide)] at H; exact H
    clear H
    have H := H1
    clear H1
    by_cases c21 : a1 ≤ a0_0
    ·
     rw [if_pos c21] at H
     have c21b0 : decide (a1 ≤ a0_0) = true := decide_eq_true c21
     clear c21
     simp only [Option.some.injEq, Prod.mk.injEq] at H
     obtain ⟨rfl, rfl, rfl, rfl, rfl⟩ := H
     have hnb22 := NB104_105.out
     have hnc22 := NB105_104.out
     have hcz23_0 : wc.cell? ⟨gb104, 0, none⟩ = some (.int .i64 a0_0) := (blk_cell BK104.out 0).trans rfl
     have hcz23_1 : wc.cell? ⟨gb104, 1, none⟩ = some (.slice A0_1 l0_1.length c0_1) := (blk_cell BK104.out 1).trans rfl
     have hfz23_0 := blk_frozen BK104.out 0
     have hfz23_1 := blk_frozen BK104.out 1
     have hcz24_0 : wc.cell? ⟨gb105, 0, none⟩ = some (.int .i64 0) := (blk_cell BK105.out 0).trans rfl
     have hcz24_1 : wc.cell? ⟨gb105, 1, none⟩ = some (.int .i64 0) := (blk_cell BK105.out 1).trans rfl
     have hcz24_2 : wc.cell? ⟨gb105, 2, none⟩ = some (.string (⟨#[]⟩ : ByteArray)) := (blk_cell BK105.out 2).trans rfl
     have hfz24_0 := blk_frozen BK105.out 0
     have hfz24_1 := blk_frozen BK105.out 1
     have hfz24_2 := blk_frozen BK105.out 2
     go_wp2
     refine bodyPost_ret (results_ctt rfl _ _ gb105 27 #[.int .i64 0, .int .i64 0, .string (⟨#[]⟩ : ByteArray)] (0, 0) _ rfl (by (with_reducible repeat (first | refine blk_drewN ?_ _ | refine blk_drew ?_ | refine blk_alloc ?_ _)); refine blk_put (cs := #[.int .i64 0, .int .i64 0, .string (⟨#[]⟩ : ByteArray)]) ?_ 2 _ rfl; (with_reducible repeat (first | refine blk_drewN ?_ _ | refine blk_drew ?_ | refine blk_alloc ?_ _)); refine blk_put (cs := #[.int .i64 0, .int .i64 0, .string (⟨#[]⟩ : ByteArray)]) ?_ 1 _ rfl; (with_reducible repeat (first | refine blk_drewN ?_ _ | refine blk_drew ?_ | refine blk_alloc ?_ _)); refine blk_put (cs := #[.int .i64 0, .int .i64 0, .string (⟨#[]⟩ : ByteArray)]) ?_ 0 _ rfl; (with_reducible repeat (first | refine blk_drewN ?_ _ | refine blk_drew ?_ | refine blk_alloc ?_ _)); exact BK105.out) Try.underlying27 rfl (by kernel_rfl)) rfl ?_
     exact ⟨by first | rfl | (simp [errW_none, errW_some] <;> rfl) | (simp [*, errW_none, errW_some] <;> rfl), by repeat (first | (with_reducible first | exact HB.out | apply below_alloc | apply Z2e | apply below_drew1 | refine below_set ?_ GE104.out | refine below_set ?_ GE105.out) | exact HB.out)⟩
    ·
     rw [if_neg c21] at H
     have c21b0 : decide (a1 ≤ a0_0) = false := decide_eq_false c21
     clear c21
     replace H := Option.bind_eq_some_iff.mp H
     obtain ⟨⟨t107, t108⟩, A250, H⟩ := H
     replace H : (if t108 = true then (if 0 ≤ t107 then (if t107 < (l0_1.length : Int) then (some ((rd_T42 l0_1 t107).f1.f0, (rd_T42 l0_1 t107).f1.f1, (rd_T42 l0_1 t107).f1.f2, true, 0)) else (none)) else (none)) else (some (0, 0, (⟨#[]⟩ : ByteArray), false, 0))) = some (r1, r2, r3, r4, r5) := H
     have A25 := Aside0.mk A250
     clear A250
     by_cases c26 : t108 = true
     ·
      subst c26
      have H1 : (if 0 ≤ t107 then (if t107 < (l0_1.length : Int) then (some ((rd_T42 l0_1 t107).f1.f0, (rd_T42 l0_1 t107).f1.f1, (rd_T42 l0_1 t107).f1.f2, true, 0)) else (none)) else (none)) = some (r1, r2, r3, r4, r5) := by rw [if_pos rfl] at H; exact H
      clear H
      have H := H1
      clear H1
      by_cases c27 : 0 ≤ t107
      ·
       rw [if_pos c27] at H
       have c27b0 : decide (0 ≤ t107) = true := decide_eq_true c27
       clear c27
       by_cases c28 : t107 < (l0_1.length : Int)
       ·
        rw [if_pos c28] at H
        have c28b0 : decide (t107 < (l0_1.length : Int)) = true := decide_eq_true c28
        clear c28
        simp only [Option.some.injEq, Prod.mk.injEq] at H
        obtain ⟨rfl, rfl, rfl, rfl, rfl⟩ := H
        have hnb29 := NB104_105.out
        have hnc29 := NB105_104.out
        have hcz30_0 : wc.cell? ⟨gb104, 0, none⟩ = some (.int .i64 a0_0) := (blk_cell BK104.out 0).trans rfl
        have hcz30_1 : wc.cell? ⟨gb104, 1, none⟩ = some (.slice A0_1 l0_1.length c0_1) := (blk_cell BK104.out 1).trans rfl
        have hfz30_0 := blk_frozen BK104.out 0
        have hfz30_1 := blk_frozen BK104.out 1
        go_wp2_with (first | ((with_reducible refine gate_callee (f := 17) rfl ?_); refine goesL_ (some 32) rfl rfl Try.func17 (by kernel_rfl) rfl #[.slice A0_1 l0_1.length c0_1, .int .i64 a1] rfl (by (try simp only [List.map_toArray, List.map_cons, List.map_nil]); first | done | rfl | (simp only [List.length_drop, List.length_take]; rfl)) ?_; (with_reducible refine (window_find.calls _ _ l0_1 a1 t107 true _ ?side1 ?side2 A25.out).mono ?_); (case side1 => repeat (first | exact (Kd.C_below HR0_1.out HB.out) | (with_reducible refine Kd.C_alloc ?_ _) | (with_reducible refine Kd.C_drewN ?_ _) | (with_reducible refine Kd.C_drew ?_))); (case side2 => exact HC0_1.out); rintro e w31 ⟨rfl, hb⟩; refine ⟨_, rfl, ?_⟩; have n0_ := Aside0.mk (blk_below (g := gb104) (o := .cells #[.int .i64 a0_0, .slice A0_1 l0_1.length c0_1] 24 (0, 0)) (by (with_reducible repeat (first | refine blk_drewN ?_ _ | refine blk_drew ?_ | refine blk_alloc ?_ _)); exact BK104.out) hb); have n1_ := Aside0.mk (blk_below (g := gb105) (o := .cells #[.int .i64 0, .int .i64 0, .string (⟨#[]⟩ : ByteArray)] 27 (0, 0)) (by (with_reducible repeat (first | refine blk_drewN ?_ _ | refine blk_drew ?_ | refine blk_alloc ?_ _)); exact BK105.out) hb); have n2_ := Aside0.mk (below_step (by repeat (first | (with_reducible first | exact HB.out | apply below_alloc | apply Z2e | apply below_drew1 | refine below_set ?_ GE104.out | refine below_set ?_ GE105.out) | exact HB.out)) hb); clear BK104; clear BK105; clear HB; have BK104 := n0_; have BK105 := n1_; have HB := n2_; clear n0_ n1_ n2_; (try clear hb); (try clear hb2); (try clear hk); (try clear hi); have hcz32_0 : w31.cell? ⟨gb104, 0, none⟩ = some (.int .i64 a0_0) := (blk_cell BK104.out 0).trans rfl; have hcz32_1 : w31.cell? ⟨gb104, 1, none⟩ = some (.slice A0_1 l0_1.length c0_1) := (blk_cell BK104.out 1).trans rfl; have hfz32_0 := blk_frozen BK104.out 0; have hfz32_1 := blk_frozen BK104.out 1; have p109 : 0 ≤ (t107 : Int) := of_decide_eq_true (by first | (with_reducible assumption) | assumption); have q109 : t107 < (l0_1.length : Int) := of_decide_eq_true (by first | (with_reducible assumption) | assumption); obtain ⟨ad109, e109, hx109_0, hx109_1, hx109_2, hx109_3⟩ := at_T42 HR0_1.out t107 p109 q109; cases e109; replace hx109_0 := (HB.out.cell (Z2d w _ hx109_0)).trans hx109_0; replace hx109_1 := (HB.out.cell (Z2d w _ hx109_1)).trans hx109_1; replace hx109_2 := (HB.out.cell (Z2d w _ hx109_2)).trans hx109_2; replace hx109_3 := (HB.out.cell (Z2d w _ hx109_3)).trans hx109_3; replace p109 := eq_true p109; replace q109 := eq_true q109; have hcz33_0 : w31.cell? ⟨gb105, 0, none⟩ = some (.int .i64 0) := (blk_cell BK105.out 0).trans rfl; have hcz33_1 : w31.cell? ⟨gb105, 1, none⟩ = some (.int .i64 0) := (blk_cell BK105.out 1).trans rfl; have hcz33_2 : w31.cell? ⟨gb105, 2, none⟩ = some (.string (⟨#[]⟩ : ByteArray)) := (blk_cell BK105.out 2).trans rfl; have hfz33_0 := blk_frozen BK105.out 0; have hfz33_1 := blk_frozen BK105.out 1; have hfz33_2 := blk_frozen BK105.out 2))
        refine bodyPost_ret (results_ctt rfl _ _ gb105 27 #[.int .i64 ((rd_T42 l0_1 t107).f1.f0), .int .i64 ((rd_T42 l0_1 t107).f1.f1), .string ((rd_T42 l0_1 t107).f1.f2)] (0, 0) _ rfl (by (with_reducible repeat (first | refine blk_drewN ?_ _ | refine blk_drew ?_ | refine blk_alloc ?_ _)); refine blk_put (cs := #[.int .i64 ((rd_T42 l0_1 t107).f1.f0), .int .i64 ((rd_T42 l0_1 t107).f1.f1), .string (⟨#[]⟩ : ByteArray)]) ?_ 2 _ rfl; (with_reducible repeat (first | refine blk_drewN ?_ _ | refine blk_drew ?_ | refine blk_alloc ?_ _)); refine blk_put (cs := #[.int .i64 ((rd_T42 l0_1 t107).f1.f0), .int .i64 0, .string (⟨#[]⟩ : ByteArray)]) ?_ 1 _ rfl; (with_reducible repeat (first | refine blk_drewN ?_ _ | refine blk_drew ?_ | refine blk_alloc ?_ _)); refine blk_put (cs := #[.int .i64 0, .int .i64 0, .string (⟨#[]⟩ : ByteArray)]) ?_ 0 _ rfl; (with_reducible repeat (first | refine blk_drewN ?_ _ | refine blk_drew ?_ | refine blk_alloc ?_ _)); exact BK105.out) Try.underlying27 rfl (by kernel_rfl)) rfl ?_
        exact ⟨by first | rfl | (simp [errW_none, errW_some] <;> rfl) | (simp [*, errW_none, errW_some] <;> rfl), by repeat (first | (with_reducible first | exact HB.out | apply below_alloc | apply Z2e | apply below_drew1 | refine below_set ?_ GE104.out | refine below_set ?_ GE105.out) | exact HB.out)⟩
       ·
        rw [if_neg c28] at H
        exact absurd H (by simp)
      ·
       rw [if_neg c27] at H
       exact absurd H (by simp)
     ·
      replace c26 := Bool.eq_false_iff.mpr c26
      subst c26
      have H1 : (some (0, 0, (⟨#[]⟩ : ByteArray), false, 0)) = some (r1, r2, r3, r4, r5) := by rw [if_neg (show ¬ (false = true) by decide)] at H; exact H
      clear H
      have H := H1
      clear H1
      simp only [Option.some.injEq, Prod.mk.injEq] at H
      obtain ⟨rfl, rfl, rfl, rfl, rfl⟩ := H
      have hnb34 := NB104_105.out
      have hnc34 := NB105_104.out
      have hcz35_0 : wc.cell? ⟨gb104, 0, none⟩ = some (.int .i64 a0_0) := (blk_cell BK104.out 0).trans rfl
      have hcz35_1 : wc.cell? ⟨gb104, 1, none⟩ = some (.slice A0_1 l0_1.length c0_1) := (blk_cell BK104.out 1).trans rfl
      have hfz35_0 := blk_frozen BK104.out 0
      have hfz35_1 := blk_frozen BK104.out 1
      go_wp2_with (first | ((with_reducible refine gate_callee (f := 17) rfl ?_); refine goesL_ (some 32) rfl rfl Try.func17 (by kernel_rfl) rfl #[.slice A0_1 l0_1.length c0_1, .int .i64 a1] rfl (by (try simp only [List.map_toArray, List.map_cons, List.map_nil]); first | done | rfl | (simp only [List.length_drop, List.length_take]; rfl)) ?_; (with_reducible refine (window_find.calls _ _ l0_1 a1 t107 false _ ?side1 ?side2 A25.out).mono ?_); (case side1 => repeat (first | exact (Kd.C_below HR0_1.out HB.out) | (with_reducible refine Kd.C_alloc ?_ _) | (with_reducible refine Kd.C_drewN ?_ _) | (with_reducible refine Kd.C_drew ?_))); (case side2 => exact HC0_1.out); rintro e w36 ⟨rfl, hb⟩; refine ⟨_, rfl, ?_⟩; have n0_ := Aside0.mk (blk_below (g := gb104) (o := .cells #[.int .i64 a0_0, .slice A0_1 l0_1.length c0_1] 24 (0, 0)) (by (with_reducible repeat (first | refine blk_drewN ?_ _ | refine blk_drew ?_ | refine blk_alloc ?_ _)); exact BK104.out) hb); have n1_ := Aside0.mk (blk_below (g := gb105) (o := .cells #[.int .i64 0, .int .i64 0, .string (⟨#[]⟩ : ByteArray)] 27 (0, 0)) (by (with_reducible repeat (first | refine blk_drewN ?_ _ | refine blk_drew ?_ | refine blk_alloc ?_ _)); exact BK105.out) hb); have n2_ := Aside0.mk (below_step (by repeat (first | (with_reducible first | exact HB.out | apply below_alloc | apply Z2e | apply below_drew1 | refine below_set ?_ GE104.out | refine below_set ?_ GE105.out) | exact HB.out)) hb); clear BK104; clear BK105; clear HB; have BK104 := n0_; have BK105 := n1_; have HB := n2_; clear n0_ n1_ n2_; (try clear hb); (try clear hb2); (try clear hk); (try clear hi); have hcz37_0 : w36.cell? ⟨gb105, 0, none⟩ = some (.int .i64 0) := (blk_cell BK105.out 0).trans rfl; have hcz37_1 : w36.cell? ⟨gb105, 1, none⟩ = some (.int .i64 0) := (blk_cell BK105.out 1).trans rfl; have hcz37_2 : w36.cell? ⟨gb105, 2, none⟩ = some (.string (⟨#[]⟩ : ByteArray)) := (blk_cell BK105.out 2).trans rfl; have hfz37_0 := blk_frozen BK105.out 0; have hfz37_1 := blk_frozen BK105.out 1; have hfz37_2 := blk_frozen BK105.out 2))
      refine bodyPost_ret (results_ctt rfl _ _ gb105 27 #[.int .i64 0, .int .i64 0, .string (⟨#[]⟩ : ByteArray)] (0, 0) _ rfl (by (with_reducible repeat (first | refine blk_drewN ?_ _ | refine blk_drew ?_ | refine blk_alloc ?_ _)); refine blk_put (cs := #[.int .i64 0, .int .i64 0, .string (⟨#[]⟩ : ByteArray)]) ?_ 2 _ rfl; (with_reducible repeat (first | refine blk_drewN ?_ _ | refine blk_drew ?_ | refine blk_alloc ?_ _)); refine blk_put (cs := #[.int .i64 0, .int .i64 0, .string (⟨#[]⟩ : ByteArray)]) ?_ 1 _ rfl; (with_reducible repeat (first | refine blk_drewN ?_ _ | refine blk_drew ?_ | refine blk_alloc ?_ _)); refine blk_put (cs := #[.int .i64 0, .int .i64 0, .string (⟨#[]⟩ : ByteArray)]) ?_ 0 _ rfl; (with_reducible repeat (first | refine blk_drewN ?_ _ | refine blk_drew ?_ | refine blk_alloc ?_ _)); exact BK105.out) Try.underlying27 rfl (by kernel_rfl)) rfl ?_
      exact ⟨by first | rfl | (simp [errW_none, errW_some] <;> rfl) | (simp [*, errW_none, errW_some] <;> rfl), by repeat (first | (with_reducible first | exact HB.out | apply below_alloc | apply Z2e | apply below_drew1 | refine below_set ?_ GE104.out | refine below_set ?_ GE105.out) | exact HB.out)⟩

/-! ### window_Put: function 12 -/
theorem arg_win {w : World} {A : Option Addr} {c : Nat} {low : Int} {l : List S42} (h : Kd.C k42 w A l.length l) (hc : l.length ≤ c) : Go.SX.VRel w (Go.SX.OwnBy (fun _ => False) fun _ => none) (fun _ => none) (F.win low (l.map tlOf)) (.agg #[.int .i64 low, .slice A l.length c]) := by
 refine .agg rfl (fun i x hx => ?_)
 match i, hx with
 | 0, hx => injection hx with hx; subst hx; exact .tree (.lit rfl)
 | 1, hx => injection hx with hx; subst hx; exact arg_row h hc
 | (i + 2), hx => simp at hx
theorem win_arg {w : World} {Own : Nat → Prop} {low : Int} {l : List S42} {v : Value} (h : Go.SX.VRel w Own (fun _ => none) (F.win low (l.map tlOf)) v) (hm : l.length ≤ 9223372036854775807) : ∃ A c, v = .agg #[.int .i64 low, .slice A l.length c] ∧ l.length ≤ c ∧ Kd.C k42 w A l.length l := by
 obtain ⟨us, hu, hul, hus⟩ := h.agg_inv
 obtain ⟨e0, _⟩ := (hus 0 _ rfl).lit_inv
 have ht := (hus 1 _ rfl).toTree rfl
 rw [← cells_tls] at ht
 obtain ⟨A, c, e2, hc, hC⟩ := flat42.reads (l := l) ht hm
 exact ⟨A, c, by rw [hu, Go.SX.arr2 (by simpa using hul.symm) e0 e2], hc, hC⟩
theorem look_does (k : Nat) (low : Int) (l : List S42) (y r1 r2 : Int) (r3 : ByteArray) (r4 : Bool) (r5 : Int) (hm : l.length ≤ 9223372036854775807) (h : window_Look.f k low l y = some (r1, r2, r3, r4, r5)) :
 F.DoesT 10 [F.win low (l.map tlOf), Go.SX.iv y] (.tup [.agg [Go.SX.iv r1, Go.SX.iv r2, .lit (.string r3)], Go.SX.bv r4, Go.SX.iv r5]) := by
 refine Go.SX.Does.of_plain (v := .tuple #[.agg #[.int .i64 r1, .int .i64 r2, .string r3], .bool r4, .int .i64 r5]) (by kernel_rfl) (fun w Own ρ => .tup rfl (fun i x hx => ?_)) (fun w Own vs hlen hv => ?_)
 ·
  match i, hx with
  | 0, hx =>
   injection hx with hx; subst hx
   refine .agg rfl (fun i x hx => ?_)
   match i, hx with
   | 0, hx => injection hx with hx; subst hx; exact .tree (.lit rfl)
   | 1, hx => injection hx with hx; subst hx; exact .tree (.lit rfl)
   | 2, hx => injection hx with hx; subst hx; exact .tree (.lit rfl)
   | (i + 3), hx => simp at hx
  | 1, hx => injection hx with hx; subst hx; exact .tree (.lit rfl)
  | 2, hx => injection hx with hx; subst hx; exact .tree (.lit rfl)
  | (i + 3), hx => simp at hx
 ·
  obtain ⟨A, c, e0, hc, hC⟩ := win_arg (hv 0 _ rfl) hm
  obtain ⟨e1, _⟩ := (hv 1 _ rfl).lit_inv
  rw [Go.SX.arr2 (by simpa using hlen.symm) e0 e1]
  refine (window_Look.calls k low A c l y r1 r2 r3 r4 r5 w hC hc h).mono ?_
  rintro e w' ⟨rfl, hd⟩
  first | exact ⟨rfl, hd⟩ | exact ⟨rfl, hd.below⟩
def window_Put.f (k : Nat) (a0_0 : Int) (l0_1 : List S42) (a1 : Int) (a2_0 : Int) (a2_1 : Int) (a2_2 : ByteArray) : Option (Int × List S42 × Int) :=
 (window_Look.f k a0_0 l0_1 a1).bind fun b => if b.2.2.2.2 ≠ 0 then some (0, [], b.2.2.2.2) else if b.2.2.2.1 = true then some (0, [], 6) else (window_find.f l0_1 a1).bind fun q =>
  if l0_1.length < 1000 then (if l0_1.length + 1 ≤ 8 then some (a0_0, l0_1.take q.1.toNat ++ [(⟨a1, ⟨a2_0, a2_1, a2_2⟩⟩ : S42)] ++ l0_1.drop q.1.toNat, 0) else
   some (((l0_1.take q.1.toNat ++ [(⟨a1, ⟨a2_0, a2_1, a2_2⟩⟩ : S42)] ++ l0_1.drop q.1.toNat).getD 0 z42).f0, (l0_1.take q.1.toNat ++ [(⟨a1, ⟨a2_0, a2_1, a2_2⟩⟩ : S42)] ++ l0_1.drop q.1.toNat).drop 1, 0)) else none
theorem window_Put.mono : ∀ a0 a1 a2 a3 a4 a5 k, LeO (window_Put.f k a0 a1 a2 a3 a4 a5) (window_Put.f (k + 1) a0 a1 a2 a3 a4 a5) := by
 intro a0 a1 a2 a3 a4 a5 k
 unfold window_Put.f
 exact LeO.bind (window_Look.mono _ _ _ _) (fun _ => LeO.refl _)
theorem backW {w w' : World} {v : Value} {r : Go.SX.AV} {m : Go.SX.Mem} {ρ' : Go.SX.Map} {r1 r3 : Int} {r2 : List S42} (hM : Go.SX.MemOK (fun _ => False) m ρ' w') (hA : Go.SX.After w w' (fun _ => none) ρ' []) (hv : Go.SX.VRel w' (Go.SX.OwnBy (fun _ => False) ρ') ρ' r v)
 (h : (r = F.noW r3 ∧ r1 = 0 ∧ r2 = []) ∨ ∃ q lo es, r = .tup [.agg [Go.SX.iv r1, .own q 4 lo r2.length], Go.SX.iv r3] ∧ m = [(q, .arr 42 4 es)] ∧ lo + r2.length ≤ es.length ∧ (es.drop lo).take r2.length = F.tls (r2.map tlOf) ∧ r2.length ≤ 9223372036854775807) :
 ∃ v1_ : Value, Ending.returned v = .returned (.tuple #[.agg #[.int .i64 r1, v1_], .int .i64 r3]) ∧ Kd.V k42 42 w' w.heap.size (fun k_ => w.heap.size ≤ k_) v1_ r2 ∧ Below w.heap.size w w' := by
 have hsh : ∀ x, r = .tup [.agg [Go.SX.iv r1, x], Go.SX.iv r3] → ∃ v2, v = .tuple #[.agg #[.int .i64 r1, v2], .int .i64 r3] ∧ Go.SX.VRel w' (Go.SX.OwnBy (fun _ => False) ρ') ρ' x v2 := by
  rintro x rfl
  obtain ⟨us, rfl, hul, hus⟩ := hv.tup_inv
  obtain ⟨cs, hc, hcl, hcs⟩ := (hus 0 _ rfl).agg_inv
  obtain ⟨e1, _⟩ := (hus 1 _ rfl).lit_inv
  obtain ⟨g0, _⟩ := (hcs 0 _ rfl).lit_inv
  refine ⟨cs.getD 1 undef, ?_, hcs 1 _ rfl⟩
  have h1 := Go.SX.arr2 (by simpa using hul.symm) hc e1
  have h2 : cs = #[.int .i64 r1, cs.getD 1 undef] := Go.SX.arr2 (by simpa using hcl.symm) g0 rfl
  rw [h1]
  exact congrArg (fun z => Value.tuple #[Value.agg z, .int .i64 r3]) h2
 rcases h with ⟨rfl, rfl, rfl⟩ | ⟨q, lo, es, hr, rfl, hle, he, hlen⟩
 ·
  obtain ⟨v2, rfl, h2⟩ := hsh _ rfl
  have : v2 = .slice none 0 0 := by
   cases h2 with
   | tree h => cases h; rfl
  subst this
  exact ⟨_, rfl, ⟨none, 0, rfl, Nat.le_refl _, fun W' _ => ⟨rfl, by simp, fun h => by simp at h⟩⟩, hA.below⟩
 ·
  obtain ⟨v2, rfl, h2⟩ := hsh _ hr
  refine ⟨_, rfl, flat42.back (b := q) (lo := lo) (n := r2.length) (es := es) hM hA h2 (show Go.SX.look [(q, Go.SX.Blk.arr 42 4 es)] q = some (.arr 42 k42.sz es) by simp [Go.SX.look]; rfl) rfl hle ?_ hlen, hA.below⟩
  rw [cells_tls]; exact he
theorem window_Put.calls (k : Nat) (a0_0 : Int) (A0_1 : Option Addr) (c0_1 : Nat) (l0_1 : List S42) (a1 : Int) (a2_0 : Int) (a2_1 : Int) (a2_2 : ByteArray) (r1 : Int) (r2 : List S42) (r3 : Int) (w : World) (hr0_1 : Kd.C k42 w A0_1 l0_1.length l0_1) (hc0_1 : l0_1.length ≤ c0_1) (h : window_Put.f k a0_0 l0_1 a1 a2_0 a2_1 a2_2 = some (r1, r2, r3)) :
 Calls Try.prog 12 #[.agg #[.int .i64 a0_0, .slice A0_1 l0_1.length c0_1], .int .i64 a1, .agg #[.int .i64 a2_0, .int .i64 a2_1, .string a2_2]] w fun e w' => ∃ v1_ : Value, e = .returned (.tuple #[.agg #[.int .i64 r1, v1_], .int .i64 r3]) ∧ Kd.V k42 42 w' w.heap.size (fun k_ => w.heap.size ≤ k_) v1_ r2 ∧ Below w.heap.size w w' := by
 unfold window_Put.f at h
 obtain ⟨⟨b1, b2, b3, is, err⟩, hlk, h⟩ := Option.bind_eq_some_iff.1 h
 have hm := hr0_1.2.1
 have dL := look_does k a0_0 l0_1 a1 b1 b2 b3 is err hm hlk
 have key : ∀ (p : Nat) (f : Bool), (err = 0 → is = false → p ≤ l0_1.length ∧ l0_1.length < 1000) → (err = 0 → is = false → F.DoesT 17 [.ro 4 (F.tls (l0_1.map tlOf)), Go.SX.iv a1] (.tup [Go.SX.iv (p : Int), Go.SX.bv f])) →
  (∀ r m, F.PutPost a0_0 a1 (l0_1.map tlOf) (a2_0, a2_1, a2_2) is err p r m → (r = F.noW r3 ∧ r1 = 0 ∧ r2 = []) ∨ ∃ q lo es, r = .tup [.agg [Go.SX.iv r1, .own q 4 lo r2.length], Go.SX.iv r3] ∧ m = [(q, .arr 42 4 es)] ∧ lo + r2.length ≤ es.length ∧ (es.drop lo).take r2.length = F.tls (r2.map tlOf) ∧ r2.length ≤ 9223372036854775807) →
  Calls Try.prog 12 #[.agg #[.int .i64 a0_0, .slice A0_1 l0_1.length c0_1], .int .i64 a1, .agg #[.int .i64 a2_0, .int .i64 a2_1, .string a2_2]] w fun e w' => ∃ v1_ : Value, e = .returned (.tuple #[.agg #[.int .i64 r1, v1_], .int .i64 r3]) ∧ Kd.V k42 42 w' w.heap.size (fun k_ => w.heap.size ≤ k_) v1_ r2 ∧ Below w.heap.size w w' := by
  intro p f hp dF hpost
  have hD := F.d12 a0_0 a1 (l0_1.map tlOf) (a2_0, a2_1, a2_2) b1 b2 b3 is err p f (by simpa using hp) dL dF
  refine (hD.calls (vs := #[.agg #[.int .i64 a0_0, .slice A0_1 l0_1.length c0_1], .int .i64 a1, .agg #[.int .i64 a2_0, .int .i64 a2_1, .string a2_2]]) rfl (fun i x hx => ?_)).mono ?_
  ·
   match i, hx with
   | 0, hx => injection hx with hx; subst hx; exact arg_win hr0_1 hc0_1
   | 1, hx => injection hx with hx; subst hx; exact .tree (.lit rfl)
   | 2, hx =>
    injection hx with hx; subst hx
    refine .agg rfl (fun i x hx => ?_)
    match i, hx with
    | 0, hx => injection hx with hx; subst hx; exact .tree (.lit rfl)
    | 1, hx => injection hx with hx; subst hx; exact .tree (.lit rfl)
    | 2, hx => injection hx with hx; subst hx; exact .tree (.lit rfl)
    | (i + 3), hx => simp at hx
   | (i + 3), hx => simp at hx
  rintro e w' ⟨v, r, m, ρ', rfl, hp, hM, hv, hA⟩
  exact backW hM hA hv (hpost r m hp)
 by_cases he : err ≠ 0
 ·
  rw [if_pos he] at h
  injection h with h; injection h with h1 h; injection h with h2 h3
  refine key 0 false (fun h => absurd h he) (fun h => absurd h he) (fun r m hp => .inl ?_)
  rw [F.PutPost, if_pos he] at hp
  exact ⟨by rw [← h3]; exact hp.1, h1.symm, h2.symm⟩
 rw [if_neg he] at h
 by_cases hi : is = true
 ·
  rw [if_pos hi] at h
  injection h with h; injection h with h1 h; injection h with h2 h3
  refine key 0 false (fun _ h => by rw [hi] at h; cases h) (fun _ h => by rw [hi] at h; cases h) (fun r m hp => .inl ?_)
  rw [F.PutPost, if_neg he, if_pos hi] at hp
  exact ⟨by rw [← h3]; exact hp.1, h1.symm, h2.symm⟩
 rw [if_neg hi] at h
 obtain ⟨⟨q1, q2⟩, hq, h⟩ := Option.bind_eq_some_iff.1 h
 obtain ⟨dF, p, rfl, hpl⟩ := find_does l0_1 a1 q1 q2 hq
 split at h
 ·
  rename_i hln
  refine key p q2 (fun _ _ => ⟨hpl, hln⟩) (fun _ _ => dF) (fun r m hp => .inr ?_)
  rw [F.PutPost, if_neg he, if_neg hi] at hp
  obtain ⟨q, _, hm', hr⟩ := hp
  have hT : F.tls ((l0_1.map tlOf).take p ++ [(a1, (a2_0, a2_1, a2_2))] ++ (l0_1.map tlOf).drop p) = F.tls ((l0_1.take p ++ [(⟨a1, ⟨a2_0, a2_1, a2_2⟩⟩ : S42)] ++ l0_1.drop p).map tlOf) := by
   simp [List.map_take, List.map_drop, tlOf]
  have hlen : (l0_1.take p ++ [(⟨a1, ⟨a2_0, a2_1, a2_2⟩⟩ : S42)] ++ l0_1.drop p).length = l0_1.length + 1 := by simp; omega
  simp only [Int.toNat_natCast] at h
  obtain ⟨L, hL⟩ : ∃ L, L = l0_1.take p ++ [(⟨a1, ⟨a2_0, a2_1, a2_2⟩⟩ : S42)] ++ l0_1.drop p := ⟨_, rfl⟩
  rw [← hL] at h hlen hT
  split at h
  ·
   rename_i h8
   injection h with h; injection h with h1 h; injection h with h2 h3
   rw [dif_pos (by simpa using h8)] at hr
   refine ⟨q, 0, F.tls (L.map tlOf), ?_, by rw [hm', hT], ?_, ?_, ?_⟩
   ·
    rw [hr, ← h1, ← h2, ← h3, hlen]; simp
   ·
    rw [← h2]; simp
   ·
    rw [← h2, List.drop_zero, List.take_of_length_le (by simp)]
   ·
    rw [← h2, hlen]; omega
  ·
   rename_i h8
   injection h with h; injection h with h1 h; injection h with h2 h3
   rw [dif_neg (by simpa using h8)] at hr
   have hg : (((l0_1.map tlOf).take p ++ [(a1, (a2_0, a2_1, a2_2))] ++ (l0_1.map tlOf).drop p).getD 0 (0, 0, 0, ⟨#[]⟩)).1 = (L.getD 0 z42).f0 := by
    have : (l0_1.map tlOf).take p ++ [(a1, (a2_0, a2_1, a2_2))] ++ (l0_1.map tlOf).drop p = L.map tlOf := by rw [hL]; simp [List.map_take, List.map_drop, tlOf]
    rw [this]
    cases L with
    | nil => simp at hlen
    | cons y r => simp [tlOf]
   have hd : (L.drop 1).length = l0_1.length := by simp; omega
   refine ⟨q, 1, F.tls (L.map tlOf), ?_, by rw [hm', hT], ?_, ?_, ?_⟩
   ·
    rw [hr, ← h1, ← h2, ← h3, hd, ← hg]; simp
   ·
    rw [← h2, hd]; simp; omega
   ·
    rw [← h2, hd, List.take_of_length_le (by simp; omega), F.tls_drop, List.map_drop]
   ·
    rw [← h2, hd]; omega
 ·
  cases h


end Go.Proofs.Ytipmodlmmadfbaa.PWindowDoes
