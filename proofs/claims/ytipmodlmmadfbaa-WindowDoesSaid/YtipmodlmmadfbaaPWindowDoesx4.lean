-- Printed by a program of this session (xprint.py), which runs the kit's print and takes some contracts from texts of this session.
import Derived.Test.YtipmodlmmadfbaaPWindowDoesx0
import Derived.Test.YtipmodlmmadfbaaPWindowDoesx3
namespace Go.Proofs.Ytipmodlmmadfbaa.PWindowDoes
open Go.RowKit Go.Proofs.YtipmodlmmadfbaaW.PrintWords Go.Proofs.YtipmodlmmadfbaaW.PrintLast Go.Proofs.YtipmodlmmadfbaaW.PrintMore
abbrev Z4d := @blk_drewN
abbrev Z4e := @blk_drew
abbrev Z4f := @blk_alloc
abbrev Z4g := @World.block_lt_of_cell?
abbrev Z4h := @pw_below_drewN
abbrev Z4i := @below_drew1
abbrev Z4j := @below_alloc
abbrev Z4k := @below_set
abbrev Z4l := @blk_cell
attribute [local go_sem] max2_int min2_int max_two min_two max_three min_three max_four min_four   -- for this text's walks alone
set_option linter.unusedVariables false
set_option linter.unusedSimpArgs false

/-! ### colloquyref17_Look: function 11 -/
mutual
def colloquyref17_Look.j0 : Nat → Int → Bool → Int → List (S42) → Option (Int × Int × ByteArray × Bool × Int)
 | 0, _, _, _, _ => none
 | k + 1, x1, x20, x141000, x141001 => if x20 = true then (some (0, 0, (⟨#[]⟩ : ByteArray), false, 1)) else (if x1 ≤ x141000 then (some (0, 0, (⟨#[]⟩ : ByteArray), false, 9)) else (colloquyref17_Look.l0 k x1 0 x141000 x141001))
def colloquyref17_Look.l0 : Nat → Int → Int → Int → List (S42) → Option (Int × Int × ByteArray × Bool × Int)
 | 0, _, _, _, _ => none
 | k + 1, x1, x8, x141000, x141001 => if x8 < (x141001.length : Int) then (if 0 ≤ x8 then (if ((rd_T42 x141001 x8).f0) = x1 then (some ((rd_T42 x141001 x8).f1.f0, (rd_T42 x141001 x8).f1.f1, (rd_T42 x141001 x8).f1.f2, true, 0)) else (colloquyref17_Look.l0 k x1 (wrap64 (x8 + 1)) x141000 x141001)) else (none)) else (some (0, 0, (⟨#[]⟩ : ByteArray), false, 0))
end
def colloquyref17_Look.f (k : Nat) (a0_0 : Int) (l0_1 : List (S42)) (a1 : Int) : Option (Int × Int × ByteArray × Bool × Int) := (colloquyref17_May.f k a0_0 l0_1).bind fun t142 => (if t142 = true then (if a1 < 1 then (colloquyref17_Look.j0 k a1 true a0_0 l0_1) else (colloquyref17_Look.j0 k a1 (decide (a1 > 1073741824)) a0_0 l0_1)) else (colloquyref17_Look.j0 k a1 true a0_0 l0_1))
theorem colloquyref17_Look.mono_l : ∀ k, (∀ y0 y1 y2 y3, LeO (colloquyref17_Look.j0 k y0 y1 y2 y3) (colloquyref17_Look.j0 (k + 1) y0 y1 y2 y3)) ∧ (∀ y0 y1 y2 y3, LeO (colloquyref17_Look.l0 k y0 y1 y2 y3) (colloquyref17_Look.l0 (k + 1) y0 y1 y2 y3))
 | 0 => ⟨fun _ _ _ _ r h => by simp [colloquyref17_Look.j0] at h, fun _ _ _ _ r h => by simp [colloquyref17_Look.l0] at h⟩
 | k + 1 => by
  obtain ⟨ih0, ih1⟩ := colloquyref17_Look.mono_l k
  refine ⟨?_, ?_⟩
  ·
   intro y0 y1 y2 y3
   unfold colloquyref17_Look.j0
   repeat' first
   | (with_reducible exact ih0 _ _ _ _)
   | (with_reducible exact ih1 _ _ _ _)
   | (with_reducible exact colloquyref17_May.mono _ _ _)
   | (with_reducible exact LeO.refl _)
   | (with_reducible exact LeO.none _)
   | (with_reducible refine LeO.ite ?_ ?_)
   | (with_reducible refine LeO.bind ?_ (fun _ => ?_))
   | exact ih0 _ _ _ _
   | exact ih1 _ _ _ _
   | exact colloquyref17_May.mono _ _ _
   | exact LeO.none _
   | refine LeO.ite ?_ ?_
   | refine LeO.bind ?_ (fun _ => ?_)
  ·
   intro y0 y1 y2 y3
   unfold colloquyref17_Look.l0
   repeat' first
   | (with_reducible exact ih0 _ _ _ _)
   | (with_reducible exact ih1 _ _ _ _)
   | (with_reducible exact colloquyref17_May.mono _ _ _)
   | (with_reducible exact LeO.refl _)
   | (with_reducible exact LeO.none _)
   | (with_reducible refine LeO.ite ?_ ?_)
   | (with_reducible refine LeO.bind ?_ (fun _ => ?_))
   | exact ih0 _ _ _ _
   | exact ih1 _ _ _ _
   | exact colloquyref17_May.mono _ _ _
   | exact LeO.none _
   | refine LeO.ite ?_ ?_
   | refine LeO.bind ?_ (fun _ => ?_)
theorem colloquyref17_Look.mono : ∀ a0 a1 a2 k, LeO (colloquyref17_Look.f k a0 a1 a2) (colloquyref17_Look.f (k + 1) a0 a1 a2) := by
 intro a0 a1 a2 k
 obtain ⟨ih0, ih1⟩ := colloquyref17_Look.mono_l k
 unfold colloquyref17_Look.f
 repeat' first
  | (with_reducible exact ih0 _ _ _ _)
  | (with_reducible exact ih1 _ _ _ _)
  | (with_reducible exact colloquyref17_May.mono _ _ _)
  | (with_reducible exact LeO.refl _)
  | (with_reducible exact LeO.none _)
  | (with_reducible refine LeO.ite ?_ ?_)
  | (with_reducible refine LeO.bind ?_ (fun _ => ?_))
  | exact ih0 _ _ _ _
  | exact ih1 _ _ _ _
  | exact colloquyref17_May.mono _ _ _
  | exact LeO.none _
  | refine LeO.ite ?_ ?_
  | refine LeO.bind ?_ (fun _ => ?_)
set_option maxHeartbeats 8000000 in
set_option maxRecDepth 100000 in
theorem colloquyref17_Look.calls (k : Nat) (a0_0 : Int) (A0_1 : Option Addr) (c0_1 : Nat) (l0_1 : List (S42)) (a1 : Int) (r1 : Int) (r2 : Int) (r3 : ByteArray) (r4 : Bool) (r5 : Int) (w : World) (hr0_1 : Kd.C k42 w A0_1 l0_1.length l0_1) (hc0_1 : l0_1.length ≤ c0_1) (h : colloquyref17_Look.f k a0_0 l0_1 a1 = some (r1, r2, r3, r4, r5)) :
 Calls Try.prog 11 #[.agg #[.int .i64 a0_0, .slice A0_1 l0_1.length c0_1], .int .i64 a1] w fun e w' => e = .returned (.tuple #[.agg #[.int .i64 r1, .int .i64 r2, .string r3], .bool r4, .int .i64 r5]) ∧ Below w.heap.size w w' := by
 have hu24 := Try.underlying24
 have hu27 := Try.underlying27
 have HR0_1 := Aside0.mk hr0_1
 have HC0_1 := Aside0.mk hc0_1
 clear hr0_1 hc0_1
 have HB := Aside0.mk (Below.refl w.heap.size w)
 have H : ((colloquyref17_May.f k a0_0 l0_1).bind fun t142 => (if t142 = true then (if a1 < 1 then (colloquyref17_Look.j0 k a1 true a0_0 l0_1) else (colloquyref17_Look.j0 k a1 (decide (a1 > 1073741824)) a0_0 l0_1)) else (colloquyref17_Look.j0 k a1 true a0_0 l0_1))) = some (r1, r2, r3, r4, r5) := h
 clear h
 replace H := Option.bind_eq_some_iff.mp H
 obtain ⟨t142, A30, H⟩ := H
 replace H : (if t142 = true then (if a1 < 1 then (colloquyref17_Look.j0 k a1 true a0_0 l0_1) else (colloquyref17_Look.j0 k a1 (decide (a1 > 1073741824)) a0_0 l0_1)) else (colloquyref17_Look.j0 k a1 true a0_0 l0_1)) = some (r1, r2, r3, r4, r5) := H
 have A3 := Aside0.mk A30
 clear A30
 have HC4 := Aside0.mk H
 clear H
 go_enter Try.func11, Try.ntmps11
 go_upto_region 2 with (first | ((with_reducible refine gate_dst (N := 2) rfl ?_); refine box_event ?hg (N := 2) ?hd (cs := #[.int .i64 a0_0, .slice A0_1 l0_1.length c0_1]) (t := 24) ?hr ?_; (case hd => rfl); (case hg => rfl); (case hr => first | (go_simp; done) | (go_simp; rfl)); intro gb140 hg w5 hbox hb; have n0_ := Aside0.mk (below_step (by repeat (first | (with_reducible first | exact HB.out | apply Z4j | apply Z4h | apply Z4i) | exact HB.out)) hb); have n1_ := Aside0.mk (hbox); have n2_ := Aside0.mk ((by rw [hg]; exact (below_size (by repeat (first | (with_reducible first | exact HB.out | apply Z4j | apply Z4h | apply Z4i) | exact HB.out))) : w.heap.size ≤ gb140)); have n3_ := Aside0.mk ((by rw [hg]; exact (below_size (by repeat (first | (with_reducible first | exact HB.out | apply Z4j | apply Z4h | apply Z4i) | exact HB.out))) : w.heap.size ≤ gb140)); clear HB; have HB := n0_; have BK140 := n1_; have GW140 := n2_; have GE140 := n3_; clear n0_ n1_ n2_ n3_; clear hb hbox hg) | ((with_reducible refine gate_dst (N := 4) rfl ?_); refine box_event ?hg (N := 4) ?hd (cs := #[.int .i64 0, .int .i64 0, .string (⟨#[]⟩ : ByteArray)]) (t := 27) ?hr ?_; (case hd => rfl); (case hg => rfl); (case hr => first | (go_simp; done) | (go_simp; rfl)); intro gb141 hg w6 hbox hb; have n0_ := Aside0.mk (blk_below (g := gb140) (o := .cells #[.int .i64 a0_0, .slice A0_1 l0_1.length c0_1] 24 (0, 0)) (by (with_reducible repeat (first | refine Z4d ?_ _ | refine Z4e ?_ | refine Z4f ?_ _)); exact BK140.out) hb); have n1_ := Aside0.mk (below_step (by repeat (first | (with_reducible first | exact HB.out | apply Z4j | apply Z4h | apply Z4i | refine Z4k ?_ GE140.out) | exact HB.out)) hb); have n2_ := Aside0.mk (hbox); have n3_ := Aside0.mk ((by rw [hg]; exact (below_size (by repeat (first | (with_reducible first | exact HB.out | apply Z4j | apply Z4h | apply Z4i | refine Z4k ?_ GE140.out) | exact HB.out))) : w.heap.size ≤ gb141)); have n4_ := Aside0.mk ((by rw [hg]; exact (below_size (by repeat (first | (with_reducible first | exact HB.out | apply Z4j | apply Z4h | apply Z4i | refine Z4k ?_ GE140.out) | exact HB.out))) : w.heap.size ≤ gb141)); have n5_ := Aside0.mk ((by rw [hg]; exact Nat.ne_of_lt (blk_lt (g := gb140) (o := .cells #[.int .i64 a0_0, .slice A0_1 l0_1.length c0_1] 24 (0, 0)) (by (with_reducible repeat (first | refine Z4d ?_ _ | refine Z4e ?_ | refine Z4f ?_ _)); exact BK140.out)) : gb140 ≠ gb141)); have n6_ := Aside0.mk ((by rw [hg]; exact Nat.ne_of_gt (blk_lt (g := gb140) (o := .cells #[.int .i64 a0_0, .slice A0_1 l0_1.length c0_1] 24 (0, 0)) (by (with_reducible repeat (first | refine Z4d ?_ _ | refine Z4e ?_ | refine Z4f ?_ _)); exact BK140.out)) : gb141 ≠ gb140)); clear BK140; clear HB; have BK140 := n0_; have HB := n1_; have BK141 := n2_; have GW141 := n3_; have GE141 := n4_; have NB140_141 := n5_; have NB141_140 := n6_; clear n0_ n1_ n2_ n3_ n4_ n5_ n6_; clear hb hbox hg; have hnb7 := NB140_141.out; have hnc7 := NB141_140.out; have hcz8_0 : w6.cell? ⟨gb140, 0, none⟩ = some (.int .i64 a0_0) := (Z4l BK140.out 0).trans rfl; have hcz8_1 : w6.cell? ⟨gb140, 1, none⟩ = some (.slice A0_1 l0_1.length c0_1) := (Z4l BK140.out 1).trans rfl; have hfz8_0 := blk_frozen BK140.out 0; have hfz8_1 := blk_frozen BK140.out 1) | ((with_reducible refine gate_callee (f := 16) rfl ?_); refine goesL_ (some 10) rfl rfl Try.func16 (by kernel_rfl) rfl #[.agg #[.int .i64 a0_0, .slice A0_1 l0_1.length c0_1]] rfl (by (try simp only [List.map_toArray, List.map_cons, List.map_nil]); first | done | rfl | (simp only [List.length_drop, List.length_take]; rfl)) ?_; (with_reducible refine (colloquyref17_May.calls k a0_0 _ _ l0_1 t142 _ ?side1 ?side2 A3.out).mono ?_); (case side1 => repeat (first | exact (Kd.C_below HR0_1.out HB.out) | (with_reducible refine Kd.C_alloc ?_ _) | (with_reducible refine Kd.C_drewN ?_ _) | (with_reducible refine Kd.C_drew ?_))); (case side2 => exact HC0_1.out); rintro e w9 ⟨rfl, hb⟩; refine ⟨_, rfl, ?_⟩; have n0_ := Aside0.mk (blk_below (g := gb140) (o := .cells #[.int .i64 a0_0, .slice A0_1 l0_1.length c0_1] 24 (0, 0)) (by (with_reducible repeat (first | refine Z4d ?_ _ | refine Z4e ?_ | refine Z4f ?_ _)); exact BK140.out) hb); have n1_ := Aside0.mk (blk_below (g := gb141) (o := .cells #[.int .i64 0, .int .i64 0, .string (⟨#[]⟩ : ByteArray)] 27 (0, 0)) (by (with_reducible repeat (first | refine Z4d ?_ _ | refine Z4e ?_ | refine Z4f ?_ _)); exact BK141.out) hb); have n2_ := Aside0.mk (below_step (by repeat (first | (with_reducible first | exact HB.out | apply Z4j | apply Z4h | apply Z4i | refine Z4k ?_ GE140.out | refine Z4k ?_ GE141.out) | exact HB.out)) hb); clear BK140; clear BK141; clear HB; have BK140 := n0_; have BK141 := n1_; have HB := n2_; clear n0_ n1_ n2_; (try clear hb); (try clear hb2); (try clear hk); (try clear hi)))
 (try simp only [Act.put, List.setIfInBounds_toArray, List.set_cons_zero, List.set_cons_succ])
 go_cut [20] (fun v20 wc => ∃ (kq : Nat) (x20_3 : Bool), v20 = .bool x20_3 ∧ Aside0 (colloquyref17_Look.j0 kq a1 x20_3 a0_0 l0_1 = some (r1, r2, r3, r4, r5)) ∧ Aside0 (kq ≤ k) ∧ Aside0 (wc.heap[gb140]? = some (.cells #[.int .i64 a0_0, (.slice A0_1 l0_1.length c0_1)] 24 (0, 0))) ∧ Aside0 (wc.heap[gb141]? = some (.cells #[.int .i64 0, .int .i64 0, .string (⟨#[]⟩ : ByteArray)] 27 (0, 0))) ∧ Aside0 (Below w.heap.size w wc))
 case first =>
  have H := HC4.out
  clear HC4
  by_cases c10 : t142 = true
  ·
   subst c10
   have H1 : (if a1 < 1 then (colloquyref17_Look.j0 k a1 true a0_0 l0_1) else (colloquyref17_Look.j0 k a1 (decide (a1 > 1073741824)) a0_0 l0_1)) = some (r1, r2, r3, r4, r5) := by rw [if_pos rfl] at H; exact H
   clear H
   have H := H1
   clear H1
   by_cases c11 : a1 < 1
   ·
    rw [if_pos c11] at H
    have c11b0 : decide (a1 < 1) = true := decide_eq_true c11
    clear c11
    (first | rw [c11b0] | (simp only [i64_w, i32_w]; rw [c11b0]) | skip)
    have H' := Aside0.mk H
    clear H
    go_wp2
    go_meet
    case rel => exact ⟨_, (true), (by first | rfl | (simp; done) | (simp [*]; done)), H', ⟨by first | omega | exact Nat.le_refl _⟩, ⟨by (with_reducible repeat (first | refine Z4d ?_ _ | refine Z4e ?_ | refine Z4f ?_ _)); exact BK140.out⟩, ⟨by (with_reducible repeat (first | refine Z4d ?_ _ | refine Z4e ?_ | refine Z4f ?_ _)); exact BK141.out⟩, ⟨by repeat (first | (with_reducible first | exact HB.out | apply Z4j | apply Z4h | apply Z4i | refine Z4k ?_ GE140.out | refine Z4k ?_ GE141.out) | exact HB.out)⟩⟩
   ·
    rw [if_neg c11] at H
    have c11b0 : decide (a1 < 1) = false := decide_eq_false c11
    clear c11
    (first | rw [c11b0] | (simp only [i64_w, i32_w]; rw [c11b0]) | skip)
    have H' := Aside0.mk H
    clear H
    go_wp2
    go_meet
    case rel => exact ⟨_, (decide (a1 > 1073741824)), (by first | rfl | (simp; done) | (simp [*]; done)), H', ⟨by first | omega | exact Nat.le_refl _⟩, ⟨by (with_reducible repeat (first | refine Z4d ?_ _ | refine Z4e ?_ | refine Z4f ?_ _)); exact BK140.out⟩, ⟨by (with_reducible repeat (first | refine Z4d ?_ _ | refine Z4e ?_ | refine Z4f ?_ _)); exact BK141.out⟩, ⟨by repeat (first | (with_reducible first | exact HB.out | apply Z4j | apply Z4h | apply Z4i | refine Z4k ?_ GE140.out | refine Z4k ?_ GE141.out) | exact HB.out)⟩⟩
  ·
   replace c10 := Bool.eq_false_iff.mpr c10
   subst c10
   have H1 : (colloquyref17_Look.j0 k a1 true a0_0 l0_1) = some (r1, r2, r3, r4, r5) := by rw [if_neg (show ¬ (false = true) by decide)] at H; exact H
   clear H
   have H := H1
   clear H1
   have H' := Aside0.mk H
   clear H
   go_wp2
   go_meet
   case rel => exact ⟨_, (true), (by first | rfl | (simp; done) | (simp [*]; done)), H', ⟨by first | omega | exact Nat.le_refl _⟩, ⟨by (with_reducible repeat (first | refine Z4d ?_ _ | refine Z4e ?_ | refine Z4f ?_ _)); exact BK140.out⟩, ⟨by (with_reducible repeat (first | refine Z4d ?_ _ | refine Z4e ?_ | refine Z4f ?_ _)); exact BK141.out⟩, ⟨by repeat (first | (with_reducible first | exact HB.out | apply Z4j | apply Z4h | apply Z4i | refine Z4k ?_ GE140.out | refine Z4k ?_ GE141.out) | exact HB.out)⟩⟩
 case rest =>
  clear HC4
  try clear c1
  try clear p2
  try clear c7
  try clear c10
  try clear c11
  try clear c11b0
  try clear hcz8_0
  try clear hcz8_1
  try clear hfz8_0
  try clear hfz8_1
  obtain ⟨kq, x20_3, rfl, HA, HJ3, BK140, BK141, HB⟩ := hcut
  cases kq with
  | zero => exact absurd HA.out (by simp [colloquyref17_Look.j0])
  | succ kj3 =>
   have H := HA.out
   clear HA
   simp only [colloquyref17_Look.j0] at H
   by_cases c12 : x20_3 = true
   ·
    subst c12
    have H1 : (some (0, 0, (⟨#[]⟩ : ByteArray), false, 1)) = some (r1, r2, r3, r4, r5) := by rw [if_pos rfl] at H; exact H
    clear H
    have H := H1
    clear H1
    simp only [Option.some.injEq, Prod.mk.injEq] at H
    obtain ⟨rfl, rfl, rfl, rfl, rfl⟩ := H
    have hnb13 := NB141_140.out
    have hnc13 := NB140_141.out
    have hcz14_0 : wc.cell? ⟨gb141, 0, none⟩ = some (.int .i64 0) := (Z4l BK141.out 0).trans rfl
    have hcz14_1 : wc.cell? ⟨gb141, 1, none⟩ = some (.int .i64 0) := (Z4l BK141.out 1).trans rfl
    have hcz14_2 : wc.cell? ⟨gb141, 2, none⟩ = some (.string (⟨#[]⟩ : ByteArray)) := (Z4l BK141.out 2).trans rfl
    have hfz14_0 := blk_frozen BK141.out 0
    have hfz14_1 := blk_frozen BK141.out 1
    have hfz14_2 := blk_frozen BK141.out 2
    go_wp2
    refine bodyPost_ret (results_ctt rfl _ _ gb141 27 #[.int .i64 0, .int .i64 0, .string (⟨#[]⟩ : ByteArray)] (0, 0) _ rfl (by (with_reducible repeat (first | refine Z4d ?_ _ | refine Z4e ?_ | refine Z4f ?_ _)); refine blk_put (cs := #[.int .i64 0, .int .i64 0, .string (⟨#[]⟩ : ByteArray)]) ?_ 2 _ rfl; (with_reducible repeat (first | refine Z4d ?_ _ | refine Z4e ?_ | refine Z4f ?_ _)); refine blk_put (cs := #[.int .i64 0, .int .i64 0, .string (⟨#[]⟩ : ByteArray)]) ?_ 1 _ rfl; (with_reducible repeat (first | refine Z4d ?_ _ | refine Z4e ?_ | refine Z4f ?_ _)); refine blk_put (cs := #[.int .i64 0, .int .i64 0, .string (⟨#[]⟩ : ByteArray)]) ?_ 0 _ rfl; (with_reducible repeat (first | refine Z4d ?_ _ | refine Z4e ?_ | refine Z4f ?_ _)); exact BK141.out) Try.underlying27 rfl (by kernel_rfl)) rfl ?_
    exact ⟨by first | rfl | (simp [errW_none, errW_some] <;> rfl) | (simp [*, errW_none, errW_some] <;> rfl), by repeat (first | (with_reducible first | exact HB.out | apply Z4j | apply Z4h | apply Z4i | refine Z4k ?_ GE140.out | refine Z4k ?_ GE141.out) | exact HB.out)⟩
   ·
    replace c12 := Bool.eq_false_iff.mpr c12
    subst c12
    have H1 : (if a1 ≤ a0_0 then (some (0, 0, (⟨#[]⟩ : ByteArray), false, 9)) else (colloquyref17_Look.l0 kj3 a1 0 a0_0 l0_1)) = some (r1, r2, r3, r4, r5) := by rw [if_neg (show ¬ (false = true) by decide)] at H; exact H
    clear H
    have H := H1
    clear H1
    by_cases c15 : a1 ≤ a0_0
    ·
     rw [if_pos c15] at H
     have c15b0 : decide (a1 ≤ a0_0) = true := decide_eq_true c15
     clear c15
     simp only [Option.some.injEq, Prod.mk.injEq] at H
     obtain ⟨rfl, rfl, rfl, rfl, rfl⟩ := H
     have hnb16 := NB140_141.out
     have hnc16 := NB141_140.out
     have hcz17_0 : wc.cell? ⟨gb140, 0, none⟩ = some (.int .i64 a0_0) := (Z4l BK140.out 0).trans rfl
     have hcz17_1 : wc.cell? ⟨gb140, 1, none⟩ = some (.slice A0_1 l0_1.length c0_1) := (Z4l BK140.out 1).trans rfl
     have hfz17_0 := blk_frozen BK140.out 0
     have hfz17_1 := blk_frozen BK140.out 1
     have hcz18_0 : wc.cell? ⟨gb141, 0, none⟩ = some (.int .i64 0) := (Z4l BK141.out 0).trans rfl
     have hcz18_1 : wc.cell? ⟨gb141, 1, none⟩ = some (.int .i64 0) := (Z4l BK141.out 1).trans rfl
     have hcz18_2 : wc.cell? ⟨gb141, 2, none⟩ = some (.string (⟨#[]⟩ : ByteArray)) := (Z4l BK141.out 2).trans rfl
     have hfz18_0 := blk_frozen BK141.out 0
     have hfz18_1 := blk_frozen BK141.out 1
     have hfz18_2 := blk_frozen BK141.out 2
     go_wp2
     refine bodyPost_ret (results_ctt rfl _ _ gb141 27 #[.int .i64 0, .int .i64 0, .string (⟨#[]⟩ : ByteArray)] (0, 0) _ rfl (by (with_reducible repeat (first | refine Z4d ?_ _ | refine Z4e ?_ | refine Z4f ?_ _)); refine blk_put (cs := #[.int .i64 0, .int .i64 0, .string (⟨#[]⟩ : ByteArray)]) ?_ 2 _ rfl; (with_reducible repeat (first | refine Z4d ?_ _ | refine Z4e ?_ | refine Z4f ?_ _)); refine blk_put (cs := #[.int .i64 0, .int .i64 0, .string (⟨#[]⟩ : ByteArray)]) ?_ 1 _ rfl; (with_reducible repeat (first | refine Z4d ?_ _ | refine Z4e ?_ | refine Z4f ?_ _)); refine blk_put (cs := #[.int .i64 0, .int .i64 0, .string (⟨#[]⟩ : ByteArray)]) ?_ 0 _ rfl; (with_reducible repeat (first | refine Z4d ?_ _ | refine Z4e ?_ | refine Z4f ?_ _)); exact BK141.out) Try.underlying27 rfl (by kernel_rfl)) rfl ?_
     exact ⟨by first | rfl | (simp [errW_none, errW_some] <;> rfl) | (simp [*, errW_none, errW_some] <;> rfl), by repeat (first | (with_reducible first | exact HB.out | apply Z4j | apply Z4h | apply Z4i | refine Z4k ?_ GE140.out | refine Z4k ?_ GE141.out) | exact HB.out)⟩
    ·
     rw [if_neg c15] at H
     have c15b0 : decide (a1 ≤ a0_0) = false := decide_eq_false c15
     clear c15
     have H' := Aside0.mk H
     clear H
     have hnb19 := NB140_141.out
     have hnc19 := NB141_140.out
     have hcz20_0 : wc.cell? ⟨gb140, 0, none⟩ = some (.int .i64 a0_0) := (Z4l BK140.out 0).trans rfl
     have hcz20_1 : wc.cell? ⟨gb140, 1, none⟩ = some (.slice A0_1 l0_1.length c0_1) := (Z4l BK140.out 1).trans rfl
     have hfz20_0 := blk_frozen BK140.out 0
     have hfz20_1 := blk_frozen BK140.out 1
     go_wp2
     go_loopg [8] kj3 (fun kq v8 w' => ∃ (x8_2 : Int) (x142000_2 : Int) (x142001_2 : Int) (x142002_2 : ByteArray), v8 = .int .i64 x8_2 ∧ Aside0 (colloquyref17_Look.l0 kq a1 x8_2 a0_0 l0_1 = some (r1, r2, r3, r4, r5)) ∧ Aside0 (kq ≤ kj3) ∧ Aside0 (w'.heap[gb140]? = some (.cells #[.int .i64 a0_0, (.slice A0_1 l0_1.length c0_1)] 24 (0, 0))) ∧ Aside0 (w'.heap[gb141]? = some (.cells #[.int .i64 x142000_2, .int .i64 x142001_2, .string x142002_2] 27 (0, 0))) ∧ Aside0 (Below w.heap.size w w'))
     case atStart => exact ⟨(0), (0), (0), ((⟨#[]⟩ : ByteArray)), (by first | rfl | (simp; done) | (simp [*]; done)), H', ⟨Nat.le_refl _⟩, ⟨by (with_reducible repeat (first | refine Z4d ?_ _ | refine Z4e ?_ | refine Z4f ?_ _)); exact BK140.out⟩, ⟨by (with_reducible repeat (first | refine Z4d ?_ _ | refine Z4e ?_ | refine Z4f ?_ _)); exact BK141.out⟩, ⟨by repeat (first | (with_reducible first | exact HB.out | apply Z4j | apply Z4h | apply Z4i | refine Z4k ?_ GE140.out | refine Z4k ?_ GE141.out) | exact HB.out)⟩⟩
     case round =>
      clear H'
      try clear c1
      try clear p2
      try clear c7
      try clear c10
      try clear c11
      try clear c11b0
      try clear c12
      try clear c13
      try clear c15
      try clear c15b0
      try clear c16
      try clear c19
      try clear hcz14_0
      try clear hcz14_1
      try clear hcz14_2
      try clear hcz17_0
      try clear hcz17_1
      try clear hcz18_0
      try clear hcz18_1
      try clear hcz18_2
      try clear hcz20_0
      try clear hcz20_1
      try clear hcz8_0
      try clear hcz8_1
      try clear hfz14_0
      try clear hfz14_1
      try clear hfz14_2
      try clear hfz17_0
      try clear hfz17_1
      try clear hfz18_0
      try clear hfz18_1
      try clear hfz18_2
      try clear hfz20_0
      try clear hfz20_1
      try clear hfz8_0
      try clear hfz8_1
      try clear p2
      obtain ⟨x8_2, x142000_2, x142001_2, x142002_2, rfl, HA, HK2, BK140, BK141, HB⟩ := hrel
      cases gk with
      | zero => exact absurd HA.out (by simp [colloquyref17_Look.l0])
      | succ k2 =>
       have H := HA.out
       clear HA
       simp only [colloquyref17_Look.l0] at H
       by_cases c21 : x8_2 < (l0_1.length : Int)
       ·
        rw [if_pos c21] at H
        have c21b0 : decide (x8_2 < (l0_1.length : Int)) = true := decide_eq_true c21
        clear c21
        by_cases c22 : 0 ≤ x8_2
        ·
         rw [if_pos c22] at H
         have c22b0 : decide (0 ≤ x8_2) = true := decide_eq_true c22
         clear c22
         by_cases c23 : ((rd_T42 l0_1 x8_2).f0) = a1
         ·
          rw [if_pos c23] at H
          have c23b0 : (((rd_T42 l0_1 x8_2).f0) == a1) = true := beq_iff_eq.mpr c23
          have c23b1 : (((rd_T42 l0_1 x8_2).f0) != a1) = false := bne_eq_false_iff_eq.mpr c23
          clear c23
          simp only [Option.some.injEq, Prod.mk.injEq] at H
          obtain ⟨rfl, rfl, rfl, rfl, rfl⟩ := H
          have hnb24 := NB140_141.out
          have hnc24 := NB141_140.out
          have hcz25_0 : wr.cell? ⟨gb140, 0, none⟩ = some (.int .i64 a0_0) := (Z4l BK140.out 0).trans rfl
          have hcz25_1 : wr.cell? ⟨gb140, 1, none⟩ = some (.slice A0_1 l0_1.length c0_1) := (Z4l BK140.out 1).trans rfl
          have hfz25_0 := blk_frozen BK140.out 0
          have hfz25_1 := blk_frozen BK140.out 1
          have p143 : 0 ≤ (x8_2 : Int) := of_decide_eq_true (by first | (with_reducible assumption) | assumption)
          have q143 : x8_2 < (l0_1.length : Int) := of_decide_eq_true (by first | (with_reducible assumption) | assumption)
          obtain ⟨ad143, e143, hx143_0, hx143_1, hx143_2, hx143_3⟩ := at_T42 HR0_1.out x8_2 p143 q143
          cases e143
          replace hx143_0 := (HB.out.cell (Z4g w _ hx143_0)).trans hx143_0
          replace hx143_1 := (HB.out.cell (Z4g w _ hx143_1)).trans hx143_1
          replace hx143_2 := (HB.out.cell (Z4g w _ hx143_2)).trans hx143_2
          replace hx143_3 := (HB.out.cell (Z4g w _ hx143_3)).trans hx143_3
          replace p143 := eq_true p143
          replace q143 := eq_true q143
          have p144 : 0 ≤ (x8_2 : Int) := of_decide_eq_true (by first | (with_reducible assumption) | assumption)
          have q144 : x8_2 < (l0_1.length : Int) := of_decide_eq_true (by first | (with_reducible assumption) | assumption)
          obtain ⟨ad144, e144, hx144_0, hx144_1, hx144_2, hx144_3⟩ := at_T42 HR0_1.out x8_2 p144 q144
          obtain rfl : ad143 = ad144 := (by injection e144)
          replace hx144_0 := (HB.out.cell (Z4g w _ hx144_0)).trans hx144_0
          replace hx144_1 := (HB.out.cell (Z4g w _ hx144_1)).trans hx144_1
          replace hx144_2 := (HB.out.cell (Z4g w _ hx144_2)).trans hx144_2
          replace hx144_3 := (HB.out.cell (Z4g w _ hx144_3)).trans hx144_3
          replace p144 := eq_true p144
          replace q144 := eq_true q144
          have hcz26_0 : wr.cell? ⟨gb141, 0, none⟩ = some (.int .i64 x142000_2) := (Z4l BK141.out 0).trans rfl
          have hcz26_1 : wr.cell? ⟨gb141, 1, none⟩ = some (.int .i64 x142001_2) := (Z4l BK141.out 1).trans rfl
          have hcz26_2 : wr.cell? ⟨gb141, 2, none⟩ = some (.string x142002_2) := (Z4l BK141.out 2).trans rfl
          have hfz26_0 := blk_frozen BK141.out 0
          have hfz26_1 := blk_frozen BK141.out 1
          have hfz26_2 := blk_frozen BK141.out 2
          go_wp2
          refine bodyPost_ret (results_ctt rfl _ _ gb141 27 #[.int .i64 ((rd_T42 l0_1 x8_2).f1.f0), .int .i64 ((rd_T42 l0_1 x8_2).f1.f1), .string ((rd_T42 l0_1 x8_2).f1.f2)] (0, 0) _ rfl (by (with_reducible repeat (first | refine Z4d ?_ _ | refine Z4e ?_ | refine Z4f ?_ _)); refine blk_put (cs := #[.int .i64 ((rd_T42 l0_1 x8_2).f1.f0), .int .i64 ((rd_T42 l0_1 x8_2).f1.f1), .string x142002_2]) ?_ 2 _ rfl; (with_reducible repeat (first | refine Z4d ?_ _ | refine Z4e ?_ | refine Z4f ?_ _)); refine blk_put (cs := #[.int .i64 ((rd_T42 l0_1 x8_2).f1.f0), .int .i64 x142001_2, .string x142002_2]) ?_ 1 _ rfl; (with_reducible repeat (first | refine Z4d ?_ _ | refine Z4e ?_ | refine Z4f ?_ _)); refine blk_put (cs := #[.int .i64 x142000_2, .int .i64 x142001_2, .string x142002_2]) ?_ 0 _ rfl; (with_reducible repeat (first | refine Z4d ?_ _ | refine Z4e ?_ | refine Z4f ?_ _)); exact BK141.out) Try.underlying27 rfl (by kernel_rfl)) rfl ?_
          exact ⟨by first | rfl | (simp [errW_none, errW_some] <;> rfl) | (simp [*, errW_none, errW_some] <;> rfl), by repeat (first | (with_reducible first | exact HB.out | apply Z4j | apply Z4h | apply Z4i | refine Z4k ?_ GE140.out | refine Z4k ?_ GE141.out) | exact HB.out)⟩
         ·
          rw [if_neg c23] at H
          have c23b0 : (((rd_T42 l0_1 x8_2).f0) == a1) = false := beq_eq_false_iff_ne.mpr c23
          have c23b1 : (((rd_T42 l0_1 x8_2).f0) != a1) = true := bne_iff_ne.mpr c23
          have H' := Aside0.mk H
          clear H
          have hnb27 := NB140_141.out
          have hnc27 := NB141_140.out
          have hcz28_0 : wr.cell? ⟨gb140, 0, none⟩ = some (.int .i64 a0_0) := (Z4l BK140.out 0).trans rfl
          have hcz28_1 : wr.cell? ⟨gb140, 1, none⟩ = some (.slice A0_1 l0_1.length c0_1) := (Z4l BK140.out 1).trans rfl
          have hfz28_0 := blk_frozen BK140.out 0
          have hfz28_1 := blk_frozen BK140.out 1
          have p143 : 0 ≤ (x8_2 : Int) := of_decide_eq_true (by first | (with_reducible assumption) | assumption)
          have q143 : x8_2 < (l0_1.length : Int) := of_decide_eq_true (by first | (with_reducible assumption) | assumption)
          obtain ⟨ad143, e143, hx143_0, hx143_1, hx143_2, hx143_3⟩ := at_T42 HR0_1.out x8_2 p143 q143
          cases e143
          replace hx143_0 := (HB.out.cell (Z4g w _ hx143_0)).trans hx143_0
          replace hx143_1 := (HB.out.cell (Z4g w _ hx143_1)).trans hx143_1
          replace hx143_2 := (HB.out.cell (Z4g w _ hx143_2)).trans hx143_2
          replace hx143_3 := (HB.out.cell (Z4g w _ hx143_3)).trans hx143_3
          replace p143 := eq_true p143
          replace q143 := eq_true q143
          go_wp2
          go_roundg k2
          case measure => have := HJ3.out; have := HK2.out; omega
          case rel => exact ⟨(wrap64 (x8_2 + 1)), (x142000_2), (x142001_2), (x142002_2), (by first | rfl | (simp; done) | (simp [*]; done)), H', ⟨by have := HJ3.out; have := HK2.out; omega⟩, ⟨by (with_reducible repeat (first | refine Z4d ?_ _ | refine Z4e ?_ | refine Z4f ?_ _)); exact BK140.out⟩, ⟨by (with_reducible repeat (first | refine Z4d ?_ _ | refine Z4e ?_ | refine Z4f ?_ _)); exact BK141.out⟩, ⟨by repeat (first | (with_reducible first | exact HB.out | apply Z4j | apply Z4h | apply Z4i | refine Z4k ?_ GE140.out | refine Z4k ?_ GE141.out) | exact HB.out)⟩⟩
        ·
         rw [if_neg c22] at H
         exact absurd H (by simp)
       ·
        rw [if_neg c21] at H
        have c21b0 : decide (x8_2 < (l0_1.length : Int)) = false := decide_eq_false c21
        clear c21
        simp only [Option.some.injEq, Prod.mk.injEq] at H
        obtain ⟨rfl, rfl, rfl, rfl, rfl⟩ := H
        have hnb29 := NB140_141.out
        have hnc29 := NB141_140.out
        have hcz30_0 : wr.cell? ⟨gb140, 0, none⟩ = some (.int .i64 a0_0) := (Z4l BK140.out 0).trans rfl
        have hcz30_1 : wr.cell? ⟨gb140, 1, none⟩ = some (.slice A0_1 l0_1.length c0_1) := (Z4l BK140.out 1).trans rfl
        have hfz30_0 := blk_frozen BK140.out 0
        have hfz30_1 := blk_frozen BK140.out 1
        have hcz31_0 : wr.cell? ⟨gb141, 0, none⟩ = some (.int .i64 x142000_2) := (Z4l BK141.out 0).trans rfl
        have hcz31_1 : wr.cell? ⟨gb141, 1, none⟩ = some (.int .i64 x142001_2) := (Z4l BK141.out 1).trans rfl
        have hcz31_2 : wr.cell? ⟨gb141, 2, none⟩ = some (.string x142002_2) := (Z4l BK141.out 2).trans rfl
        have hfz31_0 := blk_frozen BK141.out 0
        have hfz31_1 := blk_frozen BK141.out 1
        have hfz31_2 := blk_frozen BK141.out 2
        go_wp2
        refine bodyPost_ret (results_ctt rfl _ _ gb141 27 #[.int .i64 0, .int .i64 0, .string (⟨#[]⟩ : ByteArray)] (0, 0) _ rfl (by (with_reducible repeat (first | refine Z4d ?_ _ | refine Z4e ?_ | refine Z4f ?_ _)); refine blk_put (cs := #[.int .i64 0, .int .i64 0, .string x142002_2]) ?_ 2 _ rfl; (with_reducible repeat (first | refine Z4d ?_ _ | refine Z4e ?_ | refine Z4f ?_ _)); refine blk_put (cs := #[.int .i64 0, .int .i64 x142001_2, .string x142002_2]) ?_ 1 _ rfl; (with_reducible repeat (first | refine Z4d ?_ _ | refine Z4e ?_ | refine Z4f ?_ _)); refine blk_put (cs := #[.int .i64 x142000_2, .int .i64 x142001_2, .string x142002_2]) ?_ 0 _ rfl; (with_reducible repeat (first | refine Z4d ?_ _ | refine Z4e ?_ | refine Z4f ?_ _)); exact BK141.out) Try.underlying27 rfl (by kernel_rfl)) rfl ?_
        exact ⟨by first | rfl | (simp [errW_none, errW_some] <;> rfl) | (simp [*, errW_none, errW_some] <;> rfl), by repeat (first | (with_reducible first | exact HB.out | apply Z4j | apply Z4h | apply Z4i | refine Z4k ?_ GE140.out | refine Z4k ?_ GE141.out) | exact HB.out)⟩

/-! ### colloquyref17_Put: function 13 -/
def colloquyref17_Put.l0 : Nat → Int → List (S42) → Bool → Int → Int → List (S42) → Int → Int → ByteArray → Option (Int × (List (S42)) × Int)
 | 0, _, _, _, _, _, _, _, _, _ => none
 | k + 1, x1, x11, x12, x13, x146000, x146001, x147000, x147001, x147002 => if x13 < (x146001.length : Int) then (if x12 = true then (if 0 ≤ x13 then (if x11.length < 3518437208883 then (colloquyref17_Put.l0 k x1 (x11 ++ [(⟨(rd_T42 x146001 x13).f0, (⟨(rd_T42 x146001 x13).f1.f0, (rd_T42 x146001 x13).f1.f1, (rd_T42 x146001 x13).f1.f2⟩ : S27)⟩ : S42)]) x12 (wrap64 (x13 + 1)) x146000 x146001 x147000 x147001 x147002) else (none)) else (none)) else (if 0 ≤ x13 then (if ((rd_T42 x146001 x13).f0) > x1 then (if x11.length < 3518437208883 then ((some (x11 ++ [(⟨x1, (⟨x147000, x147001, x147002⟩ : S27)⟩ : S42)] : List (S42))).bind fun y159 => (if y159.length < 3518437208883 then (colloquyref17_Put.l0 k x1 (y159 ++ [(⟨(rd_T42 x146001 x13).f0, (⟨(rd_T42 x146001 x13).f1.f0, (rd_T42 x146001 x13).f1.f1, (rd_T42 x146001 x13).f1.f2⟩ : S27)⟩ : S42)]) true (wrap64 (x13 + 1)) x146000 x146001 x147000 x147001 x147002) else (none))) else (none)) else (if x11.length < 3518437208883 then (colloquyref17_Put.l0 k x1 (x11 ++ [(⟨(rd_T42 x146001 x13).f0, (⟨(rd_T42 x146001 x13).f1.f0, (rd_T42 x146001 x13).f1.f1, (rd_T42 x146001 x13).f1.f2⟩ : S27)⟩ : S42)]) x12 (wrap64 (x13 + 1)) x146000 x146001 x147000 x147001 x147002) else (none))) else (none))) else (if x12 = true then (if (x11.length : Int) > 8 then (if 0 < (x11.length : Int) then (if 1 ≤ (x11.length : Int) then (some ((rd_T42 x11 0).f0, (x11.drop (1 : Int).toNat), 0)) else (none)) else (none)) else (some (x146000, x11, 0))) else (if x11.length < 3518437208883 then ((some (x11 ++ [(⟨x1, (⟨x147000, x147001, x147002⟩ : S27)⟩ : S42)] : List (S42))).bind fun y174 => (if (y174.length : Int) > 8 then (if 0 < (y174.length : Int) then (if 1 ≤ (y174.length : Int) then (some ((rd_T42 y174 0).f0, (y174.drop (1 : Int).toNat), 0)) else (none)) else (none)) else (some (x146000, y174, 0)))) else (none)))
def colloquyref17_Put.f (k : Nat) (a0_0 : Int) (l0_1 : List (S42)) (a1 : Int) (a2_0 : Int) (a2_1 : Int) (a2_2 : ByteArray) : Option (Int × (List (S42)) × Int) := (colloquyref17_Look.f k a0_0 l0_1 a1).bind fun bt148 => (if bt148.2.2.2.2 = 0 then (if bt148.2.2.2.1 = true then (some (0, ([] : List (S42)), 6)) else (colloquyref17_Put.l0 k a1 ([] : List (S42)) false 0 a0_0 l0_1 a2_0 a2_1 a2_2)) else (some (0, ([] : List (S42)), bt148.2.2.2.2)))
theorem colloquyref17_Put.mono_l : ∀ k, (∀ y0 y1 y2 y3 y4 y5 y6 y7 y8, LeO (colloquyref17_Put.l0 k y0 y1 y2 y3 y4 y5 y6 y7 y8) (colloquyref17_Put.l0 (k + 1) y0 y1 y2 y3 y4 y5 y6 y7 y8))
 | 0 => fun _ _ _ _ _ _ _ _ _ r h => by simp [colloquyref17_Put.l0] at h
 | k + 1 => by
  have ih0 := colloquyref17_Put.mono_l k
  ·
   intro y0 y1 y2 y3 y4 y5 y6 y7 y8
   unfold colloquyref17_Put.l0
   repeat' first
   | (with_reducible exact ih0 _ _ _ _ _ _ _ _ _)
   | (with_reducible exact colloquyref17_Look.mono _ _ _ _)
   | (with_reducible exact LeO.refl _)
   | (with_reducible exact LeO.none _)
   | (with_reducible refine LeO.ite ?_ ?_)
   | (with_reducible refine LeO.bind ?_ (fun _ => ?_))
   | exact ih0 _ _ _ _ _ _ _ _ _
   | exact colloquyref17_Look.mono _ _ _ _
   | exact LeO.none _
   | refine LeO.ite ?_ ?_
   | refine LeO.bind ?_ (fun _ => ?_)
theorem colloquyref17_Put.mono : ∀ a0 a1 a2 a3 a4 a5 k, LeO (colloquyref17_Put.f k a0 a1 a2 a3 a4 a5) (colloquyref17_Put.f (k + 1) a0 a1 a2 a3 a4 a5) := by
 intro a0 a1 a2 a3 a4 a5 k
 have ih0 := colloquyref17_Put.mono_l k
 unfold colloquyref17_Put.f
 repeat' first
  | (with_reducible exact ih0 _ _ _ _ _ _ _ _ _)
  | (with_reducible exact colloquyref17_Look.mono _ _ _ _)
  | (with_reducible exact LeO.refl _)
  | (with_reducible exact LeO.none _)
  | (with_reducible refine LeO.ite ?_ ?_)
  | (with_reducible refine LeO.bind ?_ (fun _ => ?_))
  | exact ih0 _ _ _ _ _ _ _ _ _
  | exact colloquyref17_Look.mono _ _ _ _
  | exact LeO.none _
  | refine LeO.ite ?_ ?_
  | refine LeO.bind ?_ (fun _ => ?_)
set_option maxHeartbeats 8000000 in
set_option maxRecDepth 100000 in
theorem colloquyref17_Put.calls (k : Nat) (a0_0 : Int) (A0_1 : Option Addr) (c0_1 : Nat) (l0_1 : List (S42)) (a1 : Int) (a2_0 : Int) (a2_1 : Int) (a2_2 : ByteArray) (r1 : Int) (r2 : List (S42)) (r3 : Int) (w : World) (hr0_1 : Kd.C k42 w A0_1 l0_1.length l0_1) (hc0_1 : l0_1.length ≤ c0_1) (h : colloquyref17_Put.f k a0_0 l0_1 a1 a2_0 a2_1 a2_2 = some (r1, r2, r3)) :
 Calls Try.prog 13 #[.agg #[.int .i64 a0_0, .slice A0_1 l0_1.length c0_1], .int .i64 a1, .agg #[.int .i64 a2_0, .int .i64 a2_1, .string a2_2]] w fun e w' => ∃ v1_ : Value, e = .returned (.tuple #[.agg #[.int .i64 r1, v1_], .int .i64 r3]) ∧ Kd.Q k42 42 w' w.heap.size (fun _ => True) v1_ r2 ∧ Below w.heap.size w w' := by
 have hu24 := Try.underlying24
 have hu27 := Try.underlying27
 have hu42 := Try.underlying42
 have HR0_1 := Aside0.mk hr0_1
 have HC0_1 := Aside0.mk hc0_1
 clear hr0_1 hc0_1
 have HB := Aside0.mk (Below.refl w.heap.size w)
 have H : ((colloquyref17_Look.f k a0_0 l0_1 a1).bind fun bt148 => (if bt148.2.2.2.2 = 0 then (if bt148.2.2.2.1 = true then (some (0, ([] : List (S42)), 6)) else (colloquyref17_Put.l0 k a1 ([] : List (S42)) false 0 a0_0 l0_1 a2_0 a2_1 a2_2)) else (some (0, ([] : List (S42)), bt148.2.2.2.2)))) = some (r1, r2, r3) := h
 clear h
 replace H := Option.bind_eq_some_iff.mp H
 obtain ⟨⟨t148, t149, t150, t151, t152⟩, A40, H⟩ := H
 replace H : (if t152 = 0 then (if t151 = true then (some (0, ([] : List (S42)), 6)) else (colloquyref17_Put.l0 k a1 ([] : List (S42)) false 0 a0_0 l0_1 a2_0 a2_1 a2_2)) else (some (0, ([] : List (S42)), t152))) = some (r1, r2, r3) := H
 have A4 := Aside0.mk A40
 clear A40
 by_cases c5 : t152 = 0
 ·
  rw [if_pos c5] at H
  have c5b0 : (t152 == 0) = true := beq_iff_eq.mpr c5
  have c5b1 : (t152 != 0) = false := bne_eq_false_iff_eq.mpr c5
  clear c5
  by_cases c6 : t151 = true
  ·
   subst c6
   have H1 : (some (0, ([] : List (S42)), 6)) = some (r1, r2, r3) := by rw [if_pos rfl] at H; exact H
   clear H
   have H := H1
   clear H1
   simp only [Option.some.injEq, Prod.mk.injEq] at H
   obtain ⟨rfl, rfl, rfl⟩ := H
   go_enter Try.func13, Try.ntmps13
   go_wp2_with (first | ((with_reducible refine gate_dst (N := 3) rfl ?_); refine box_event ?hg (N := 3) ?hd (cs := #[.int .i64 a0_0, .slice A0_1 l0_1.length c0_1]) (t := 24) ?hr ?_; (case hd => rfl); (case hg => rfl); (case hr => first | (go_simp; done) | (go_simp; rfl)); intro gb145 hg w7 hbox hb; have n0_ := Aside0.mk (below_step (by repeat (first | (with_reducible first | exact HB.out | apply Z4j | apply Z4h | apply Z4i) | exact HB.out)) hb); have n1_ := Aside0.mk (hbox); have n2_ := Aside0.mk ((by rw [hg]; exact (below_size (by repeat (first | (with_reducible first | exact HB.out | apply Z4j | apply Z4h | apply Z4i) | exact HB.out))) : w.heap.size ≤ gb145)); have n3_ := Aside0.mk ((by rw [hg]; exact (below_size (by repeat (first | (with_reducible first | exact HB.out | apply Z4j | apply Z4h | apply Z4i) | exact HB.out))) : w.heap.size ≤ gb145)); clear HB; have HB := n0_; have BK145 := n1_; have GW145 := n2_; have GE145 := n3_; clear n0_ n1_ n2_ n3_; clear hb hbox hg) | ((with_reducible refine gate_dst (N := 5) rfl ?_); refine box_event ?hg (N := 5) ?hd (cs := #[.int .i64 a2_0, .int .i64 a2_1, .string a2_2]) (t := 27) ?hr ?_; (case hd => rfl); (case hg => rfl); (case hr => first | (go_simp; done) | (go_simp; rfl)); intro gb146 hg w8 hbox hb; have n0_ := Aside0.mk (blk_below (g := gb145) (o := .cells #[.int .i64 a0_0, .slice A0_1 l0_1.length c0_1] 24 (0, 0)) (by (with_reducible repeat (first | refine Z4d ?_ _ | refine Z4e ?_ | refine Z4f ?_ _)); exact BK145.out) hb); have n1_ := Aside0.mk (below_step (by repeat (first | (with_reducible first | exact HB.out | apply Z4j | apply Z4h | apply Z4i | refine Z4k ?_ GE145.out) | exact HB.out)) hb); have n2_ := Aside0.mk (hbox); have n3_ := Aside0.mk ((by rw [hg]; exact (below_size (by repeat (first | (with_reducible first | exact HB.out | apply Z4j | apply Z4h | apply Z4i | refine Z4k ?_ GE145.out) | exact HB.out))) : w.heap.size ≤ gb146)); have n4_ := Aside0.mk ((by rw [hg]; exact (below_size (by repeat (first | (with_reducible first | exact HB.out | apply Z4j | apply Z4h | apply Z4i | refine Z4k ?_ GE145.out) | exact HB.out))) : w.heap.size ≤ gb146)); have n5_ := Aside0.mk ((by rw [hg]; exact Nat.ne_of_lt (blk_lt (g := gb145) (o := .cells #[.int .i64 a0_0, .slice A0_1 l0_1.length c0_1] 24 (0, 0)) (by (with_reducible repeat (first | refine Z4d ?_ _ | refine Z4e ?_ | refine Z4f ?_ _)); exact BK145.out)) : gb145 ≠ gb146)); have n6_ := Aside0.mk ((by rw [hg]; exact Nat.ne_of_gt (blk_lt (g := gb145) (o := .cells #[.int .i64 a0_0, .slice A0_1 l0_1.length c0_1] 24 (0, 0)) (by (with_reducible repeat (first | refine Z4d ?_ _ | refine Z4e ?_ | refine Z4f ?_ _)); exact BK145.out)) : gb146 ≠ gb145)); clear BK145; clear HB; have BK145 := n0_; have HB := n1_; have BK146 := n2_; have GW146 := n3_; have GE146 := n4_; have NB145_146 := n5_; have NB146_145 := n6_; clear n0_ n1_ n2_ n3_ n4_ n5_ n6_; clear hb hbox hg) | ((with_reducible refine gate_dst (N := 6) rfl ?_); refine box_event ?hg (N := 6) ?hd (cs := #[.int .i64 0, .slice none 0 0]) (t := 24) ?hr ?_; (case hd => rfl); (case hg => rfl); (case hr => first | (go_simp; done) | (go_simp; rfl)); intro gb147 hg w9 hbox hb; have n0_ := Aside0.mk (blk_below (g := gb145) (o := .cells #[.int .i64 a0_0, .slice A0_1 l0_1.length c0_1] 24 (0, 0)) (by (with_reducible repeat (first | refine Z4d ?_ _ | refine Z4e ?_ | refine Z4f ?_ _)); exact BK145.out) hb); have n1_ := Aside0.mk (blk_below (g := gb146) (o := .cells #[.int .i64 a2_0, .int .i64 a2_1, .string a2_2] 27 (0, 0)) (by (with_reducible repeat (first | refine Z4d ?_ _ | refine Z4e ?_ | refine Z4f ?_ _)); exact BK146.out) hb); have n2_ := Aside0.mk (below_step (by repeat (first | (with_reducible first | exact HB.out | apply Z4j | apply Z4h | apply Z4i | refine Z4k ?_ GE145.out | refine Z4k ?_ GE146.out) | exact HB.out)) hb); have n3_ := Aside0.mk (hbox); have n4_ := Aside0.mk ((by rw [hg]; exact (below_size (by repeat (first | (with_reducible first | exact HB.out | apply Z4j | apply Z4h | apply Z4i | refine Z4k ?_ GE145.out | refine Z4k ?_ GE146.out) | exact HB.out))) : w.heap.size ≤ gb147)); have n5_ := Aside0.mk ((by rw [hg]; exact (below_size (by repeat (first | (with_reducible first | exact HB.out | apply Z4j | apply Z4h | apply Z4i | refine Z4k ?_ GE145.out | refine Z4k ?_ GE146.out) | exact HB.out))) : w.heap.size ≤ gb147)); have n6_ := Aside0.mk ((by rw [hg]; exact Nat.ne_of_lt (blk_lt (g := gb145) (o := .cells #[.int .i64 a0_0, .slice A0_1 l0_1.length c0_1] 24 (0, 0)) (by (with_reducible repeat (first | refine Z4d ?_ _ | refine Z4e ?_ | refine Z4f ?_ _)); exact BK145.out)) : gb145 ≠ gb147)); have n7_ := Aside0.mk ((by rw [hg]; exact Nat.ne_of_gt (blk_lt (g := gb145) (o := .cells #[.int .i64 a0_0, .slice A0_1 l0_1.length c0_1] 24 (0, 0)) (by (with_reducible repeat (first | refine Z4d ?_ _ | refine Z4e ?_ | refine Z4f ?_ _)); exact BK145.out)) : gb147 ≠ gb145)); have n8_ := Aside0.mk ((by rw [hg]; exact Nat.ne_of_lt (blk_lt (g := gb146) (o := .cells #[.int .i64 a2_0, .int .i64 a2_1, .string a2_2] 27 (0, 0)) (by (with_reducible repeat (first | refine Z4d ?_ _ | refine Z4e ?_ | refine Z4f ?_ _)); exact BK146.out)) : gb146 ≠ gb147)); have n9_ := Aside0.mk ((by rw [hg]; exact Nat.ne_of_gt (blk_lt (g := gb146) (o := .cells #[.int .i64 a2_0, .int .i64 a2_1, .string a2_2] 27 (0, 0)) (by (with_reducible repeat (first | refine Z4d ?_ _ | refine Z4e ?_ | refine Z4f ?_ _)); exact BK146.out)) : gb147 ≠ gb146)); clear BK145; clear BK146; clear HB; have BK145 := n0_; have BK146 := n1_; have HB := n2_; have BK147 := n3_; have GW147 := n4_; have GE147 := n5_; have NB145_147 := n6_; have NB147_145 := n7_; have NB146_147 := n8_; have NB147_146 := n9_; clear n0_ n1_ n2_ n3_ n4_ n5_ n6_ n7_ n8_ n9_; clear hb hbox hg; have hnb10 := NB145_146.out; have hnc10 := NB146_145.out; have hnb11 := NB145_147.out; have hnc11 := NB147_145.out; have hcz12_0 : w9.cell? ⟨gb145, 0, none⟩ = some (.int .i64 a0_0) := (Z4l BK145.out 0).trans rfl; have hcz12_1 : w9.cell? ⟨gb145, 1, none⟩ = some (.slice A0_1 l0_1.length c0_1) := (Z4l BK145.out 1).trans rfl; have hfz12_0 := blk_frozen BK145.out 0; have hfz12_1 := blk_frozen BK145.out 1) | ((with_reducible refine gate_callee (f := 11) rfl ?_); refine goesL_ (some 18) rfl rfl Try.func11 (by kernel_rfl) rfl #[.agg #[.int .i64 a0_0, .slice A0_1 l0_1.length c0_1], .int .i64 a1] rfl (by (try simp only [List.map_toArray, List.map_cons, List.map_nil]); first | done | rfl | (simp only [List.length_drop, List.length_take]; rfl)) ?_; (with_reducible refine (colloquyref17_Look.calls k a0_0 _ _ l0_1 a1 t148 t149 t150 true t152 _ ?side1 ?side2 A4.out).mono ?_); (case side1 => repeat (first | exact (Kd.C_below HR0_1.out HB.out) | (with_reducible refine Kd.C_alloc ?_ _) | (with_reducible refine Kd.C_drewN ?_ _) | (with_reducible refine Kd.C_drew ?_))); (case side2 => exact HC0_1.out); rintro e w13 ⟨rfl, hb⟩; refine ⟨_, rfl, ?_⟩; have n0_ := Aside0.mk (blk_below (g := gb145) (o := .cells #[.int .i64 a0_0, .slice A0_1 l0_1.length c0_1] 24 (0, 0)) (by (with_reducible repeat (first | refine Z4d ?_ _ | refine Z4e ?_ | refine Z4f ?_ _)); exact BK145.out) hb); have n1_ := Aside0.mk (blk_below (g := gb146) (o := .cells #[.int .i64 a2_0, .int .i64 a2_1, .string a2_2] 27 (0, 0)) (by (with_reducible repeat (first | refine Z4d ?_ _ | refine Z4e ?_ | refine Z4f ?_ _)); exact BK146.out) hb); have n2_ := Aside0.mk (blk_below (g := gb147) (o := .cells #[.int .i64 0, .slice none 0 0] 24 (0, 0)) (by (with_reducible repeat (first | refine Z4d ?_ _ | refine Z4e ?_ | refine Z4f ?_ _)); exact BK147.out) hb); have n3_ := Aside0.mk (below_step (by repeat (first | (with_reducible first | exact HB.out | apply Z4j | apply Z4h | apply Z4i | refine Z4k ?_ GE145.out | refine Z4k ?_ GE146.out | refine Z4k ?_ GE147.out) | exact HB.out)) hb); clear BK145; clear BK146; clear BK147; clear HB; have BK145 := n0_; have BK146 := n1_; have BK147 := n2_; have HB := n3_; clear n0_ n1_ n2_ n3_; (try clear hb); (try clear hb2); (try clear hk); (try clear hi)) | ((with_reducible refine gate_dst (N := 8) rfl ?_); refine box_event ?hg (N := 8) ?hd (cs := #[.int .i64 0, .int .i64 0, .string (⟨#[]⟩ : ByteArray)]) (t := 27) ?hr ?_; (case hd => rfl); (case hg => rfl); (case hr => first | (go_simp; done) | (go_simp; rfl)); intro gb153 hg w14 hbox hb; have n0_ := Aside0.mk (blk_below (g := gb145) (o := .cells #[.int .i64 a0_0, .slice A0_1 l0_1.length c0_1] 24 (0, 0)) (by (with_reducible repeat (first | refine Z4d ?_ _ | refine Z4e ?_ | refine Z4f ?_ _)); exact BK145.out) hb); have n1_ := Aside0.mk (blk_below (g := gb146) (o := .cells #[.int .i64 a2_0, .int .i64 a2_1, .string a2_2] 27 (0, 0)) (by (with_reducible repeat (first | refine Z4d ?_ _ | refine Z4e ?_ | refine Z4f ?_ _)); exact BK146.out) hb); have n2_ := Aside0.mk (blk_below (g := gb147) (o := .cells #[.int .i64 0, .slice none 0 0] 24 (0, 0)) (by (with_reducible repeat (first | refine Z4d ?_ _ | refine Z4e ?_ | refine Z4f ?_ _)); exact BK147.out) hb); have n3_ := Aside0.mk (below_step (by repeat (first | (with_reducible first | exact HB.out | apply Z4j | apply Z4h | apply Z4i | refine Z4k ?_ GE145.out | refine Z4k ?_ GE146.out | refine Z4k ?_ GE147.out) | exact HB.out)) hb); have n4_ := Aside0.mk (hbox); have n5_ := Aside0.mk ((by rw [hg]; exact (below_size (by repeat (first | (with_reducible first | exact HB.out | apply Z4j | apply Z4h | apply Z4i | refine Z4k ?_ GE145.out | refine Z4k ?_ GE146.out | refine Z4k ?_ GE147.out) | exact HB.out))) : w.heap.size ≤ gb153)); have n6_ := Aside0.mk ((by rw [hg]; exact (below_size (by repeat (first | (with_reducible first | exact HB.out | apply Z4j | apply Z4h | apply Z4i | refine Z4k ?_ GE145.out | refine Z4k ?_ GE146.out | refine Z4k ?_ GE147.out) | exact HB.out))) : w.heap.size ≤ gb153)); have n7_ := Aside0.mk ((by rw [hg]; exact Nat.ne_of_lt (blk_lt (g := gb145) (o := .cells #[.int .i64 a0_0, .slice A0_1 l0_1.length c0_1] 24 (0, 0)) (by (with_reducible repeat (first | refine Z4d ?_ _ | refine Z4e ?_ | refine Z4f ?_ _)); exact BK145.out)) : gb145 ≠ gb153)); have n8_ := Aside0.mk ((by rw [hg]; exact Nat.ne_of_gt (blk_lt (g := gb145) (o := .cells #[.int .i64 a0_0, .slice A0_1 l0_1.length c0_1] 24 (0, 0)) (by (with_reducible repeat (first | refine Z4d ?_ _ | refine Z4e ?_ | refine Z4f ?_ _)); exact BK145.out)) : gb153 ≠ gb145)); have n9_ := Aside0.mk ((by rw [hg]; exact Nat.ne_of_lt (blk_lt (g := gb146) (o := .cells #[.int .i64 a2_0, .int .i64 a2_1, .string a2_2] 27 (0, 0)) (by (with_reducible repeat (first | refine Z4d ?_ _ | refine Z4e ?_ | refine Z4f ?_ _)); exact BK146.out)) : gb146 ≠ gb153)); have n10_ := Aside0.mk ((by rw [hg]; exact Nat.ne_of_gt (blk_lt (g := gb146) (o := .cells #[.int .i64 a2_0, .int .i64 a2_1, .string a2_2] 27 (0, 0)) (by (with_reducible repeat (first | refine Z4d ?_ _ | refine Z4e ?_ | refine Z4f ?_ _)); exact BK146.out)) : gb153 ≠ gb146)); have n11_ := Aside0.mk ((by rw [hg]; exact Nat.ne_of_lt (blk_lt (g := gb147) (o := .cells #[.int .i64 0, .slice none 0 0] 24 (0, 0)) (by (with_reducible repeat (first | refine Z4d ?_ _ | refine Z4e ?_ | refine Z4f ?_ _)); exact BK147.out)) : gb147 ≠ gb153)); have n12_ := Aside0.mk ((by rw [hg]; exact Nat.ne_of_gt (blk_lt (g := gb147) (o := .cells #[.int .i64 0, .slice none 0 0] 24 (0, 0)) (by (with_reducible repeat (first | refine Z4d ?_ _ | refine Z4e ?_ | refine Z4f ?_ _)); exact BK147.out)) : gb153 ≠ gb147)); clear BK145; clear BK146; clear BK147; clear HB; have BK145 := n0_; have BK146 := n1_; have BK147 := n2_; have HB := n3_; have BK153 := n4_; have GW153 := n5_; have GE153 := n6_; have NB145_153 := n7_; have NB153_145 := n8_; have NB146_153 := n9_; have NB153_146 := n10_; have NB147_153 := n11_; have NB153_147 := n12_; clear n0_ n1_ n2_ n3_ n4_ n5_ n6_ n7_ n8_ n9_ n10_ n11_ n12_; clear hb hbox hg; have hnb15 := NB153_145.out; have hnc15 := NB145_153.out; have hnb16 := NB153_146.out; have hnc16 := NB146_153.out; have hnb17 := NB153_147.out; have hnc17 := NB147_153.out; have hcz18_0 : w14.cell? ⟨gb153, 0, none⟩ = some (.int .i64 0) := (Z4l BK153.out 0).trans rfl; have hcz18_1 : w14.cell? ⟨gb153, 1, none⟩ = some (.int .i64 0) := (Z4l BK153.out 1).trans rfl; have hcz18_2 : w14.cell? ⟨gb153, 2, none⟩ = some (.string (⟨#[]⟩ : ByteArray)) := (Z4l BK153.out 2).trans rfl; have hfz18_0 := blk_frozen BK153.out 0; have hfz18_1 := blk_frozen BK153.out 1; have hfz18_2 := blk_frozen BK153.out 2; have hnb19 := NB147_146.out; have hnc19 := NB146_147.out; have hcz20_0 : w14.cell? ⟨gb147, 0, none⟩ = some (.int .i64 0) := (Z4l BK147.out 0).trans rfl; have hcz20_1 : w14.cell? ⟨gb147, 1, none⟩ = some (.slice none 0 0) := (Z4l BK147.out 1).trans rfl; have hfz20_0 := blk_frozen BK147.out 0; have hfz20_1 := blk_frozen BK147.out 1))
   refine bodyPost_ret (results_ct rfl _ _ gb147 24 #[.int .i64 0, .slice none 0 0] (0, 0) _ rfl (by (with_reducible repeat (first | refine Z4d ?_ _ | refine Z4e ?_ | refine Z4f ?_ _)); refine blk_put (cs := #[.int .i64 0, .slice none 0 0]) ?_ 1 _ rfl; (with_reducible repeat (first | refine Z4d ?_ _ | refine Z4e ?_ | refine Z4f ?_ _)); refine blk_put (cs := #[.int .i64 0, .slice none 0 0]) ?_ 0 _ rfl; (with_reducible repeat (first | refine Z4d ?_ _ | refine Z4e ?_ | refine Z4f ?_ _)); refine blk_far ?_ NB147_153.out _; (with_reducible repeat (first | refine Z4d ?_ _ | refine Z4e ?_ | refine Z4f ?_ _)); refine blk_far ?_ NB147_153.out _; (with_reducible repeat (first | refine Z4d ?_ _ | refine Z4e ?_ | refine Z4f ?_ _)); refine blk_far ?_ NB147_153.out _; (with_reducible repeat (first | refine Z4d ?_ _ | refine Z4e ?_ | refine Z4f ?_ _)); exact BK147.out) Try.underlying24 rfl (by kernel_rfl)) rfl ?_
   exact ⟨_, by first | rfl | (simp [errW_none, errW_some] <;> rfl) | (simp [*, errW_none, errW_some] <;> rfl), Kd.Q_of_R (by first | exact Kd.R_nil _ _ _ _ _ | exact Kd.N_nil _ _ _ _ _ | exact Kd.V_nil _ _ _ _ _ | exact Kd.Q_nil _ _ _ _ _ | exact Kd.S_nil _ _ _ _ _), by repeat (first | (with_reducible first | exact HB.out | apply Z4j | apply Z4h | apply Z4i | refine Z4k ?_ GE145.out | refine Z4k ?_ GE146.out | refine Z4k ?_ GE147.out | refine Z4k ?_ GE153.out) | exact HB.out)⟩
  ·
   replace c6 := Bool.eq_false_iff.mpr c6
   subst c6
   have H1 : (colloquyref17_Put.l0 k a1 ([] : List (S42)) false 0 a0_0 l0_1 a2_0 a2_1 a2_2) = some (r1, r2, r3) := by rw [if_neg (show ¬ (false = true) by decide)] at H; exact H
   clear H
   have H := H1
   clear H1
   have H' := Aside0.mk H
   clear H
   go_enter Try.func13, Try.ntmps13
   go_wp2_with (first | ((with_reducible refine gate_dst (N := 3) rfl ?_); refine box_event ?hg (N := 3) ?hd (cs := #[.int .i64 a0_0, .slice A0_1 l0_1.length c0_1]) (t := 24) ?hr ?_; (case hd => rfl); (case hg => rfl); (case hr => first | (go_simp; done) | (go_simp; rfl)); intro gb145 hg w21 hbox hb; have n0_ := Aside0.mk (below_step (by repeat (first | (with_reducible first | exact HB.out | apply Z4j | apply Z4h | apply Z4i) | exact HB.out)) hb); have n1_ := Aside0.mk (hbox); have n2_ := Aside0.mk ((by rw [hg]; exact (below_size (by repeat (first | (with_reducible first | exact HB.out | apply Z4j | apply Z4h | apply Z4i) | exact HB.out))) : w.heap.size ≤ gb145)); have n3_ := Aside0.mk ((by rw [hg]; exact (below_size (by repeat (first | (with_reducible first | exact HB.out | apply Z4j | apply Z4h | apply Z4i) | exact HB.out))) : w.heap.size ≤ gb145)); clear HB; have HB := n0_; have BK145 := n1_; have GW145 := n2_; have GE145 := n3_; clear n0_ n1_ n2_ n3_; clear hb hbox hg) | ((with_reducible refine gate_dst (N := 5) rfl ?_); refine box_event ?hg (N := 5) ?hd (cs := #[.int .i64 a2_0, .int .i64 a2_1, .string a2_2]) (t := 27) ?hr ?_; (case hd => rfl); (case hg => rfl); (case hr => first | (go_simp; done) | (go_simp; rfl)); intro gb146 hg w22 hbox hb; have n0_ := Aside0.mk (blk_below (g := gb145) (o := .cells #[.int .i64 a0_0, .slice A0_1 l0_1.length c0_1] 24 (0, 0)) (by (with_reducible repeat (first | refine Z4d ?_ _ | refine Z4e ?_ | refine Z4f ?_ _)); exact BK145.out) hb); have n1_ := Aside0.mk (below_step (by repeat (first | (with_reducible first | exact HB.out | apply Z4j | apply Z4h | apply Z4i | refine Z4k ?_ GE145.out) | exact HB.out)) hb); have n2_ := Aside0.mk (hbox); have n3_ := Aside0.mk ((by rw [hg]; exact (below_size (by repeat (first | (with_reducible first | exact HB.out | apply Z4j | apply Z4h | apply Z4i | refine Z4k ?_ GE145.out) | exact HB.out))) : w.heap.size ≤ gb146)); have n4_ := Aside0.mk ((by rw [hg]; exact (below_size (by repeat (first | (with_reducible first | exact HB.out | apply Z4j | apply Z4h | apply Z4i | refine Z4k ?_ GE145.out) | exact HB.out))) : w.heap.size ≤ gb146)); have n5_ := Aside0.mk ((by rw [hg]; exact Nat.ne_of_lt (blk_lt (g := gb145) (o := .cells #[.int .i64 a0_0, .slice A0_1 l0_1.length c0_1] 24 (0, 0)) (by (with_reducible repeat (first | refine Z4d ?_ _ | refine Z4e ?_ | refine Z4f ?_ _)); exact BK145.out)) : gb145 ≠ gb146)); have n6_ := Aside0.mk ((by rw [hg]; exact Nat.ne_of_gt (blk_lt (g := gb145) (o := .cells #[.int .i64 a0_0, .slice A0_1 l0_1.length c0_1] 24 (0, 0)) (by (with_reducible repeat (first | refine Z4d ?_ _ | refine Z4e ?_ | refine Z4f ?_ _)); exact BK145.out)) : gb146 ≠ gb145)); clear BK145; clear HB; have BK145 := n0_; have HB := n1_; have BK146 := n2_; have GW146 := n3_; have GE146 := n4_; have NB145_146 := n5_; have NB146_145 := n6_; clear n0_ n1_ n2_ n3_ n4_ n5_ n6_; clear hb hbox hg) | ((with_reducible refine gate_dst (N := 6) rfl ?_); refine box_event ?hg (N := 6) ?hd (cs := #[.int .i64 0, .slice none 0 0]) (t := 24) ?hr ?_; (case hd => rfl); (case hg => rfl); (case hr => first | (go_simp; done) | (go_simp; rfl)); intro gb147 hg w23 hbox hb; have n0_ := Aside0.mk (blk_below (g := gb145) (o := .cells #[.int .i64 a0_0, .slice A0_1 l0_1.length c0_1] 24 (0, 0)) (by (with_reducible repeat (first | refine Z4d ?_ _ | refine Z4e ?_ | refine Z4f ?_ _)); exact BK145.out) hb); have n1_ := Aside0.mk (blk_below (g := gb146) (o := .cells #[.int .i64 a2_0, .int .i64 a2_1, .string a2_2] 27 (0, 0)) (by (with_reducible repeat (first | refine Z4d ?_ _ | refine Z4e ?_ | refine Z4f ?_ _)); exact BK146.out) hb); have n2_ := Aside0.mk (below_step (by repeat (first | (with_reducible first | exact HB.out | apply Z4j | apply Z4h | apply Z4i | refine Z4k ?_ GE145.out | refine Z4k ?_ GE146.out) | exact HB.out)) hb); have n3_ := Aside0.mk (hbox); have n4_ := Aside0.mk ((by rw [hg]; exact (below_size (by repeat (first | (with_reducible first | exact HB.out | apply Z4j | apply Z4h | apply Z4i | refine Z4k ?_ GE145.out | refine Z4k ?_ GE146.out) | exact HB.out))) : w.heap.size ≤ gb147)); have n5_ := Aside0.mk ((by rw [hg]; exact (below_size (by repeat (first | (with_reducible first | exact HB.out | apply Z4j | apply Z4h | apply Z4i | refine Z4k ?_ GE145.out | refine Z4k ?_ GE146.out) | exact HB.out))) : w.heap.size ≤ gb147)); have n6_ := Aside0.mk ((by rw [hg]; exact Nat.ne_of_lt (blk_lt (g := gb145) (o := .cells #[.int .i64 a0_0, .slice A0_1 l0_1.length c0_1] 24 (0, 0)) (by (with_reducible repeat (first | refine Z4d ?_ _ | refine Z4e ?_ | refine Z4f ?_ _)); exact BK145.out)) : gb145 ≠ gb147)); have n7_ := Aside0.mk ((by rw [hg]; exact Nat.ne_of_gt (blk_lt (g := gb145) (o := .cells #[.int .i64 a0_0, .slice A0_1 l0_1.length c0_1] 24 (0, 0)) (by (with_reducible repeat (first | refine Z4d ?_ _ | refine Z4e ?_ | refine Z4f ?_ _)); exact BK145.out)) : gb147 ≠ gb145)); have n8_ := Aside0.mk ((by rw [hg]; exact Nat.ne_of_lt (blk_lt (g := gb146) (o := .cells #[.int .i64 a2_0, .int .i64 a2_1, .string a2_2] 27 (0, 0)) (by (with_reducible repeat (first | refine Z4d ?_ _ | refine Z4e ?_ | refine Z4f ?_ _)); exact BK146.out)) : gb146 ≠ gb147)); have n9_ := Aside0.mk ((by rw [hg]; exact Nat.ne_of_gt (blk_lt (g := gb146) (o := .cells #[.int .i64 a2_0, .int .i64 a2_1, .string a2_2] 27 (0, 0)) (by (with_reducible repeat (first | refine Z4d ?_ _ | refine Z4e ?_ | refine Z4f ?_ _)); exact BK146.out)) : gb147 ≠ gb146)); clear BK145; clear BK146; clear HB; have BK145 := n0_; have BK146 := n1_; have HB := n2_; have BK147 := n3_; have GW147 := n4_; have GE147 := n5_; have NB145_147 := n6_; have NB147_145 := n7_; have NB146_147 := n8_; have NB147_146 := n9_; clear n0_ n1_ n2_ n3_ n4_ n5_ n6_ n7_ n8_ n9_; clear hb hbox hg; have hnb24 := NB145_146.out; have hnc24 := NB146_145.out; have hnb25 := NB145_147.out; have hnc25 := NB147_145.out; have hcz26_0 : w23.cell? ⟨gb145, 0, none⟩ = some (.int .i64 a0_0) := (Z4l BK145.out 0).trans rfl; have hcz26_1 : w23.cell? ⟨gb145, 1, none⟩ = some (.slice A0_1 l0_1.length c0_1) := (Z4l BK145.out 1).trans rfl; have hfz26_0 := blk_frozen BK145.out 0; have hfz26_1 := blk_frozen BK145.out 1) | ((with_reducible refine gate_callee (f := 11) rfl ?_); refine goesL_ (some 18) rfl rfl Try.func11 (by kernel_rfl) rfl #[.agg #[.int .i64 a0_0, .slice A0_1 l0_1.length c0_1], .int .i64 a1] rfl (by (try simp only [List.map_toArray, List.map_cons, List.map_nil]); first | done | rfl | (simp only [List.length_drop, List.length_take]; rfl)) ?_; (with_reducible refine (colloquyref17_Look.calls k a0_0 _ _ l0_1 a1 t148 t149 t150 false t152 _ ?side1 ?side2 A4.out).mono ?_); (case side1 => repeat (first | exact (Kd.C_below HR0_1.out HB.out) | (with_reducible refine Kd.C_alloc ?_ _) | (with_reducible refine Kd.C_drewN ?_ _) | (with_reducible refine Kd.C_drew ?_))); (case side2 => exact HC0_1.out); rintro e w27 ⟨rfl, hb⟩; refine ⟨_, rfl, ?_⟩; have n0_ := Aside0.mk (blk_below (g := gb145) (o := .cells #[.int .i64 a0_0, .slice A0_1 l0_1.length c0_1] 24 (0, 0)) (by (with_reducible repeat (first | refine Z4d ?_ _ | refine Z4e ?_ | refine Z4f ?_ _)); exact BK145.out) hb); have n1_ := Aside0.mk (blk_below (g := gb146) (o := .cells #[.int .i64 a2_0, .int .i64 a2_1, .string a2_2] 27 (0, 0)) (by (with_reducible repeat (first | refine Z4d ?_ _ | refine Z4e ?_ | refine Z4f ?_ _)); exact BK146.out) hb); have n2_ := Aside0.mk (blk_below (g := gb147) (o := .cells #[.int .i64 0, .slice none 0 0] 24 (0, 0)) (by (with_reducible repeat (first | refine Z4d ?_ _ | refine Z4e ?_ | refine Z4f ?_ _)); exact BK147.out) hb); have n3_ := Aside0.mk (below_step (by repeat (first | (with_reducible first | exact HB.out | apply Z4j | apply Z4h | apply Z4i | refine Z4k ?_ GE145.out | refine Z4k ?_ GE146.out | refine Z4k ?_ GE147.out) | exact HB.out)) hb); clear BK145; clear BK146; clear BK147; clear HB; have BK145 := n0_; have BK146 := n1_; have BK147 := n2_; have HB := n3_; clear n0_ n1_ n2_ n3_; (try clear hb); (try clear hb2); (try clear hk); (try clear hi)) | ((with_reducible refine gate_dst (N := 8) rfl ?_); refine box_event ?hg (N := 8) ?hd (cs := #[.int .i64 0, .int .i64 0, .string (⟨#[]⟩ : ByteArray)]) (t := 27) ?hr ?_; (case hd => rfl); (case hg => rfl); (case hr => first | (go_simp; done) | (go_simp; rfl)); intro gb153 hg w28 hbox hb; have n0_ := Aside0.mk (blk_below (g := gb145) (o := .cells #[.int .i64 a0_0, .slice A0_1 l0_1.length c0_1] 24 (0, 0)) (by (with_reducible repeat (first | refine Z4d ?_ _ | refine Z4e ?_ | refine Z4f ?_ _)); exact BK145.out) hb); have n1_ := Aside0.mk (blk_below (g := gb146) (o := .cells #[.int .i64 a2_0, .int .i64 a2_1, .string a2_2] 27 (0, 0)) (by (with_reducible repeat (first | refine Z4d ?_ _ | refine Z4e ?_ | refine Z4f ?_ _)); exact BK146.out) hb); have n2_ := Aside0.mk (blk_below (g := gb147) (o := .cells #[.int .i64 0, .slice none 0 0] 24 (0, 0)) (by (with_reducible repeat (first | refine Z4d ?_ _ | refine Z4e ?_ | refine Z4f ?_ _)); exact BK147.out) hb); have n3_ := Aside0.mk (below_step (by repeat (first | (with_reducible first | exact HB.out | apply Z4j | apply Z4h | apply Z4i | refine Z4k ?_ GE145.out | refine Z4k ?_ GE146.out | refine Z4k ?_ GE147.out) | exact HB.out)) hb); have n4_ := Aside0.mk (hbox); have n5_ := Aside0.mk ((by rw [hg]; exact (below_size (by repeat (first | (with_reducible first | exact HB.out | apply Z4j | apply Z4h | apply Z4i | refine Z4k ?_ GE145.out | refine Z4k ?_ GE146.out | refine Z4k ?_ GE147.out) | exact HB.out))) : w.heap.size ≤ gb153)); have n6_ := Aside0.mk ((by rw [hg]; exact (below_size (by repeat (first | (with_reducible first | exact HB.out | apply Z4j | apply Z4h | apply Z4i | refine Z4k ?_ GE145.out | refine Z4k ?_ GE146.out | refine Z4k ?_ GE147.out) | exact HB.out))) : w.heap.size ≤ gb153)); have n7_ := Aside0.mk ((by rw [hg]; exact Nat.ne_of_lt (blk_lt (g := gb145) (o := .cells #[.int .i64 a0_0, .slice A0_1 l0_1.length c0_1] 24 (0, 0)) (by (with_reducible repeat (first | refine Z4d ?_ _ | refine Z4e ?_ | refine Z4f ?_ _)); exact BK145.out)) : gb145 ≠ gb153)); have n8_ := Aside0.mk ((by rw [hg]; exact Nat.ne_of_gt (blk_lt (g := gb145) (o := .cells #[.int .i64 a0_0, .slice A0_1 l0_1.length c0_1] 24 (0, 0)) (by (with_reducible repeat (first | refine Z4d ?_ _ | refine Z4e ?_ | refine Z4f ?_ _)); exact BK145.out)) : gb153 ≠ gb145)); have n9_ := Aside0.mk ((by rw [hg]; exact Nat.ne_of_lt (blk_lt (g := gb146) (o := .cells #[.int .i64 a2_0, .int .i64 a2_1, .string a2_2] 27 (0, 0)) (by (with_reducible repeat (first | refine Z4d ?_ _ | refine Z4e ?_ | refine Z4f ?_ _)); exact BK146.out)) : gb146 ≠ gb153)); have n10_ := Aside0.mk ((by rw [hg]; exact Nat.ne_of_gt (blk_lt (g := gb146) (o := .cells #[.int .i64 a2_0, .int .i64 a2_1, .string a2_2] 27 (0, 0)) (by (with_reducible repeat (first | refine Z4d ?_ _ | refine Z4e ?_ | refine Z4f ?_ _)); exact BK146.out)) : gb153 ≠ gb146)); have n11_ := Aside0.mk ((by rw [hg]; exact Nat.ne_of_lt (blk_lt (g := gb147) (o := .cells #[.int .i64 0, .slice none 0 0] 24 (0, 0)) (by (with_reducible repeat (first | refine Z4d ?_ _ | refine Z4e ?_ | refine Z4f ?_ _)); exact BK147.out)) : gb147 ≠ gb153)); have n12_ := Aside0.mk ((by rw [hg]; exact Nat.ne_of_gt (blk_lt (g := gb147) (o := .cells #[.int .i64 0, .slice none 0 0] 24 (0, 0)) (by (with_reducible repeat (first | refine Z4d ?_ _ | refine Z4e ?_ | refine Z4f ?_ _)); exact BK147.out)) : gb153 ≠ gb147)); clear BK145; clear BK146; clear BK147; clear HB; have BK145 := n0_; have BK146 := n1_; have BK147 := n2_; have HB := n3_; have BK153 := n4_; have GW153 := n5_; have GE153 := n6_; have NB145_153 := n7_; have NB153_145 := n8_; have NB146_153 := n9_; have NB153_146 := n10_; have NB147_153 := n11_; have NB153_147 := n12_; clear n0_ n1_ n2_ n3_ n4_ n5_ n6_ n7_ n8_ n9_ n10_ n11_ n12_; clear hb hbox hg; have hnb29 := NB153_145.out; have hnc29 := NB145_153.out; have hnb30 := NB153_146.out; have hnc30 := NB146_153.out; have hnb31 := NB153_147.out; have hnc31 := NB147_153.out; have hcz32_0 : w28.cell? ⟨gb153, 0, none⟩ = some (.int .i64 0) := (Z4l BK153.out 0).trans rfl; have hcz32_1 : w28.cell? ⟨gb153, 1, none⟩ = some (.int .i64 0) := (Z4l BK153.out 1).trans rfl; have hcz32_2 : w28.cell? ⟨gb153, 2, none⟩ = some (.string (⟨#[]⟩ : ByteArray)) := (Z4l BK153.out 2).trans rfl; have hfz32_0 := blk_frozen BK153.out 0; have hfz32_1 := blk_frozen BK153.out 1; have hfz32_2 := blk_frozen BK153.out 2))
   go_loopg [11, 12, 13] k (fun kq v11 v12 v13 w' => ∃ (x11_1 : List (S42)) (x12_1 : Bool) (x13_1 : Int), v12 = .bool x12_1 ∧ v13 = .int .i64 x13_1 ∧ Aside0 (colloquyref17_Put.l0 kq a1 x11_1 x12_1 x13_1 a0_0 l0_1 a2_0 a2_1 a2_2 = some (r1, r2, r3)) ∧ Aside0 (kq ≤ k) ∧ Aside0 (Kd.Q k42 42 w' w.heap.size (fun _ => True) v11 x11_1) ∧ Aside0 (w'.heap[gb145]? = some (.cells #[.int .i64 a0_0, (.slice A0_1 l0_1.length c0_1)] 24 (0, 0))) ∧ Aside0 (w'.heap[gb146]? = some (.cells #[.int .i64 a2_0, .int .i64 a2_1, .string a2_2] 27 (0, 0))) ∧ Aside0 (w'.heap[gb147]? = some (.cells #[.int .i64 0, (.slice none 0 0)] 24 (0, 0))) ∧ Aside0 (w'.heap[gb153]? = some (.cells #[.int .i64 t148, .int .i64 t149, .string t150] 27 (0, 0))) ∧ Aside0 (Below w.heap.size w w'))
   case atStart => exact ⟨(([] : List (S42))), (false), (0), (by first | rfl | (simp; done) | (simp [*]; done)), (by first | rfl | (simp; done) | (simp [*]; done)), H', ⟨Nat.le_refl _⟩, ⟨Kd.Q_of_R (by first | exact Kd.R_nil _ _ _ _ _ | exact Kd.N_nil _ _ _ _ _ | exact Kd.V_nil _ _ _ _ _ | exact Kd.Q_nil _ _ _ _ _ | exact Kd.S_nil _ _ _ _ _)⟩, ⟨by (with_reducible repeat (first | refine Z4d ?_ _ | refine Z4e ?_ | refine Z4f ?_ _)); refine blk_far ?_ NB145_153.out _; (with_reducible repeat (first | refine Z4d ?_ _ | refine Z4e ?_ | refine Z4f ?_ _)); refine blk_far ?_ NB145_153.out _; (with_reducible repeat (first | refine Z4d ?_ _ | refine Z4e ?_ | refine Z4f ?_ _)); refine blk_far ?_ NB145_153.out _; (with_reducible repeat (first | refine Z4d ?_ _ | refine Z4e ?_ | refine Z4f ?_ _)); exact BK145.out⟩, ⟨by (with_reducible repeat (first | refine Z4d ?_ _ | refine Z4e ?_ | refine Z4f ?_ _)); refine blk_far ?_ NB146_153.out _; (with_reducible repeat (first | refine Z4d ?_ _ | refine Z4e ?_ | refine Z4f ?_ _)); refine blk_far ?_ NB146_153.out _; (with_reducible repeat (first | refine Z4d ?_ _ | refine Z4e ?_ | refine Z4f ?_ _)); refine blk_far ?_ NB146_153.out _; (with_reducible repeat (first | refine Z4d ?_ _ | refine Z4e ?_ | refine Z4f ?_ _)); exact BK146.out⟩, ⟨by (with_reducible repeat (first | refine Z4d ?_ _ | refine Z4e ?_ | refine Z4f ?_ _)); refine blk_far ?_ NB147_153.out _; (with_reducible repeat (first | refine Z4d ?_ _ | refine Z4e ?_ | refine Z4f ?_ _)); refine blk_far ?_ NB147_153.out _; (with_reducible repeat (first | refine Z4d ?_ _ | refine Z4e ?_ | refine Z4f ?_ _)); refine blk_far ?_ NB147_153.out _; (with_reducible repeat (first | refine Z4d ?_ _ | refine Z4e ?_ | refine Z4f ?_ _)); exact BK147.out⟩, ⟨by (with_reducible repeat (first | refine Z4d ?_ _ | refine Z4e ?_ | refine Z4f ?_ _)); refine blk_put (cs := #[.int .i64 t148, .int .i64 t149, .string (⟨#[]⟩ : ByteArray)]) ?_ 2 _ rfl; (with_reducible repeat (first | refine Z4d ?_ _ | refine Z4e ?_ | refine Z4f ?_ _)); refine blk_put (cs := #[.int .i64 t148, .int .i64 0, .string (⟨#[]⟩ : ByteArray)]) ?_ 1 _ rfl; (with_reducible repeat (first | refine Z4d ?_ _ | refine Z4e ?_ | refine Z4f ?_ _)); refine blk_put (cs := #[.int .i64 0, .int .i64 0, .string (⟨#[]⟩ : ByteArray)]) ?_ 0 _ rfl; (with_reducible repeat (first | refine Z4d ?_ _ | refine Z4e ?_ | refine Z4f ?_ _)); exact BK153.out⟩, ⟨by repeat (first | (with_reducible first | exact HB.out | apply Z4j | apply Z4h | apply Z4i | refine Z4k ?_ GE145.out | refine Z4k ?_ GE146.out | refine Z4k ?_ GE147.out | refine Z4k ?_ GE153.out) | exact HB.out)⟩⟩
   case round =>
    clear H'
    try clear c1
    try clear c2
    try clear p2
    try clear c3
    try clear c5
    try clear c5b0
    try clear c5b1
    try clear c6
    try clear c10
    try clear c11
    try clear c13
    try clear c15
    try clear c16
    try clear c17
    try clear c19
    try clear c24
    try clear c25
    try clear c29
    try clear c30
    try clear c31
    try clear hcz12_0
    try clear hcz12_1
    try clear hcz18_0
    try clear hcz18_1
    try clear hcz18_2
    try clear hcz20_0
    try clear hcz20_1
    try clear hcz26_0
    try clear hcz26_1
    try clear hcz32_0
    try clear hcz32_1
    try clear hcz32_2
    try clear hfz12_0
    try clear hfz12_1
    try clear hfz18_0
    try clear hfz18_1
    try clear hfz18_2
    try clear hfz20_0
    try clear hfz20_1
    try clear hfz26_0
    try clear hfz26_1
    try clear hfz32_0
    try clear hfz32_1
    try clear hfz32_2
    obtain ⟨x11_1, x12_1, x13_1, rfl, rfl, HA, HK1, HO_11, BK145, BK146, BK147, BK153, HB⟩ := hrel
    cases gk with
    | zero => exact absurd HA.out (by simp [colloquyref17_Put.l0])
    | succ k1 =>
     have H := HA.out
     clear HA
     simp only [colloquyref17_Put.l0] at H
     by_cases c33 : x13_1 < (l0_1.length : Int)
     ·
      rw [if_pos c33] at H
      have c33b0 : decide (x13_1 < (l0_1.length : Int)) = true := decide_eq_true c33
      clear c33
      by_cases c34 : x12_1 = true
      ·
       subst c34
       have H1 : (if 0 ≤ x13_1 then (if x11_1.length < 3518437208883 then (colloquyref17_Put.l0 k1 a1 (x11_1 ++ [(⟨(rd_T42 l0_1 x13_1).f0, (⟨(rd_T42 l0_1 x13_1).f1.f0, (rd_T42 l0_1 x13_1).f1.f1, (rd_T42 l0_1 x13_1).f1.f2⟩ : S27)⟩ : S42)]) true (wrap64 (x13_1 + 1)) a0_0 l0_1 a2_0 a2_1 a2_2) else (none)) else (none)) = some (r1, r2, r3) := by rw [if_pos rfl] at H; exact H
       clear H
       have H := H1
       clear H1
       by_cases c35 : 0 ≤ x13_1
       ·
        rw [if_pos c35] at H
        have c35b0 : decide (0 ≤ x13_1) = true := decide_eq_true c35
        clear c35
        by_cases c36 : x11_1.length < 3518437208883
        ·
         rw [if_pos c36] at H
         have LMc36 := Aside0.mk c36
         clear c36
         obtain ⟨y155, hy155⟩ : ∃ y_ : List (S42), y_ = (x11_1 ++ [(⟨(rd_T42 l0_1 x13_1).f0, (⟨(rd_T42 l0_1 x13_1).f1.f0, (rd_T42 l0_1 x13_1).f1.f1, (rd_T42 l0_1 x13_1).f1.f2⟩ : S27)⟩ : S42)]) := ⟨_, rfl⟩
         replace H : (colloquyref17_Put.l0 k1 a1 y155 true (wrap64 (x13_1 + 1)) a0_0 l0_1 a2_0 a2_1 a2_2) = some (r1, r2, r3) := by first | (rw [hy155]; with_reducible exact H) | (have H2_ := (Option.bind_some _ _).symm.trans H; rw [hy155]; with_reducible exact H2_) | (have H2_ := (Option.bind_some _ _).symm.trans H; with_reducible exact H2_) | with_reducible exact H | (rw [hy155]; exact H) | exact H
         have Ny155 := Aside0.mk hy155
         clear hy155
         have H' := Aside0.mk H
         clear H
         have hnb37 := NB145_146.out
         have hnc37 := NB146_145.out
         have hnb38 := NB145_147.out
         have hnc38 := NB147_145.out
         have hnb39 := NB145_153.out
         have hnc39 := NB153_145.out
         have hcz40_0 : wr.cell? ⟨gb145, 0, none⟩ = some (.int .i64 a0_0) := (Z4l BK145.out 0).trans rfl
         have hcz40_1 : wr.cell? ⟨gb145, 1, none⟩ = some (.slice A0_1 l0_1.length c0_1) := (Z4l BK145.out 1).trans rfl
         have hfz40_0 := blk_frozen BK145.out 0
         have hfz40_1 := blk_frozen BK145.out 1
         have p154 : 0 ≤ (x13_1 : Int) := of_decide_eq_true (by first | (with_reducible assumption) | assumption)
         have q154 : x13_1 < (l0_1.length : Int) := of_decide_eq_true (by first | (with_reducible assumption) | assumption)
         obtain ⟨ad154, e154, hx154_0, hx154_1, hx154_2, hx154_3⟩ := at_T42 HR0_1.out x13_1 p154 q154
         cases e154
         replace hx154_0 := (HB.out.cell (Z4g w _ hx154_0)).trans hx154_0
         replace hx154_1 := (HB.out.cell (Z4g w _ hx154_1)).trans hx154_1
         replace hx154_2 := (HB.out.cell (Z4g w _ hx154_2)).trans hx154_2
         replace hx154_3 := (HB.out.cell (Z4g w _ hx154_3)).trans hx154_3
         replace p154 := eq_true p154
         replace q154 := eq_true q154
         go_wp2_with (first | ((with_reducible refine gate_builtin (b := .append) (xs := #[.tmp 53, .tmp 59]) rfl ?_); at_builtin; refine Kd.Q_append k42 (w0 := w) w.heap.size rfl (.tmp 53) (.tmp 59) 22 42 (.agg #[(.int .i64 0), (.int .i64 0), (.int .i64 0), (.string ⟨#[]⟩)]) 40 rfl Try.underlying22 info42 rfl (by decide) (by omega) u11 x11_1 (⟨(rd_T42 l0_1 x13_1).f0, (⟨(rd_T42 l0_1 x13_1).f1.f0, (rd_T42 l0_1 x13_1).f1.f1, (rd_T42 l0_1 x13_1).f1.f2⟩ : S27)⟩ : S42) [.int .i64 ((rd_T42 l0_1 x13_1).f0), .int .i64 ((rd_T42 l0_1 x13_1).f1.f0), .int .i64 ((rd_T42 l0_1 x13_1).f1.f1), .string ((rd_T42 l0_1 x13_1).f1.f2)] (fun _ => True) (fun _ => False) rfl rfl ?aP (fun _ hk => hk.elim) ?aF ?aO ?aB ?aS ?aL ?_; (case aP => exact k42_mkM _ _ _ (⟨(rd_T42 l0_1 x13_1).f0, (⟨(rd_T42 l0_1 x13_1).f1.f0, (rd_T42 l0_1 x13_1).f1.f1, (rd_T42 l0_1 x13_1).f1.f2⟩ : S27)⟩ : S42)); (case aB => exact (by repeat (first | (with_reducible first | exact HB.out | apply Z4j | apply Z4h | apply Z4i | refine Z4k ?_ GE145.out | refine Z4k ?_ GE146.out | refine Z4k ?_ GE147.out | refine Z4k ?_ GE153.out) | exact HB.out))); (case aF => exact (fun _ _ => trivial)); (case aO => exact (by (with_reducible repeat (first | apply Kd.Q_alloc | apply Kd.Q_drewN | apply Kd.Q_drew)); exact HO_11.out)); (case aS => exact (below_size (by repeat (first | (with_reducible first | exact HB.out | apply Z4j | apply Z4h | apply Z4i | refine Z4k ?_ GE145.out | refine Z4k ?_ GE146.out | refine Z4k ?_ GE147.out | refine Z4k ?_ GE153.out) | exact HB.out)))); (case aL => have := LMc36.out; omega); intro v156 w41 ho hb hg hat; rw [← Ny155.out] at ho; have n0_ := Aside0.mk (blk_grown (g := gb145) (o := .cells #[.int .i64 a0_0, .slice (some ad154) l0_1.length c0_1] 24 (0, 0)) (by (with_reducible repeat (first | refine Z4d ?_ _ | refine Z4e ?_ | refine Z4f ?_ _)); exact BK145.out) hg (Kd.Q_ne HO_11.out BK145.out (by decide))); have n1_ := Aside0.mk (blk_grown (g := gb146) (o := .cells #[.int .i64 a2_0, .int .i64 a2_1, .string a2_2] 27 (0, 0)) (by (with_reducible repeat (first | refine Z4d ?_ _ | refine Z4e ?_ | refine Z4f ?_ _)); exact BK146.out) hg (Kd.Q_ne HO_11.out BK146.out (by decide))); have n2_ := Aside0.mk (blk_grown (g := gb147) (o := .cells #[.int .i64 0, .slice none 0 0] 24 (0, 0)) (by (with_reducible repeat (first | refine Z4d ?_ _ | refine Z4e ?_ | refine Z4f ?_ _)); exact BK147.out) hg (Kd.Q_ne HO_11.out BK147.out (by decide))); have n3_ := Aside0.mk (blk_grown (g := gb153) (o := .cells #[.int .i64 t148, .int .i64 t149, .string t150] 27 (0, 0)) (by (with_reducible repeat (first | refine Z4d ?_ _ | refine Z4e ?_ | refine Z4f ?_ _)); exact BK153.out) hg (Kd.Q_ne HO_11.out BK153.out (by decide))); have n4_ := Aside0.mk (hb); have n5_ := Aside0.mk (ho); clear BK145; clear BK146; clear BK147; clear BK153; clear HB; clear HO_11; have BK145 := n0_; have BK146 := n1_; have BK147 := n2_; have BK153 := n3_; have HB := n4_; have HO157 := n5_; clear n0_ n1_ n2_ n3_ n4_ n5_; clear ho hb hg hat))
         go_roundg k1
         case measure => have := HK1.out; omega
         case rel => exact ⟨(y155), (true), (wrap64 (x13_1 + 1)), (by first | rfl | (simp; done) | (simp [*]; done)), (by first | rfl | (simp; done) | (simp [*]; done)), H', ⟨by have := HK1.out; omega⟩, ⟨by (with_reducible repeat (first | apply Kd.Q_alloc | apply Kd.Q_drewN | apply Kd.Q_drew)); exact HO157.out⟩, ⟨by (with_reducible repeat (first | refine Z4d ?_ _ | refine Z4e ?_ | refine Z4f ?_ _)); exact BK145.out⟩, ⟨by (with_reducible repeat (first | refine Z4d ?_ _ | refine Z4e ?_ | refine Z4f ?_ _)); exact BK146.out⟩, ⟨by (with_reducible repeat (first | refine Z4d ?_ _ | refine Z4e ?_ | refine Z4f ?_ _)); exact BK147.out⟩, ⟨by (with_reducible repeat (first | refine Z4d ?_ _ | refine Z4e ?_ | refine Z4f ?_ _)); exact BK153.out⟩, ⟨by repeat (first | (with_reducible first | exact HB.out | apply Z4j | apply Z4h | apply Z4i | refine Z4k ?_ GE145.out | refine Z4k ?_ GE146.out | refine Z4k ?_ GE147.out | refine Z4k ?_ GE153.out) | exact HB.out)⟩⟩
        ·
         rw [if_neg c36] at H
         exact absurd H (by simp)
       ·
        rw [if_neg c35] at H
        exact absurd H (by simp)
      ·
       replace c34 := Bool.eq_false_iff.mpr c34
       subst c34
       have H1 : (if 0 ≤ x13_1 then (if ((rd_T42 l0_1 x13_1).f0) > a1 then (if x11_1.length < 3518437208883 then ((some (x11_1 ++ [(⟨a1, (⟨a2_0, a2_1, a2_2⟩ : S27)⟩ : S42)] : List (S42))).bind fun y159 => (if y159.length < 3518437208883 then (colloquyref17_Put.l0 k1 a1 (y159 ++ [(⟨(rd_T42 l0_1 x13_1).f0, (⟨(rd_T42 l0_1 x13_1).f1.f0, (rd_T42 l0_1 x13_1).f1.f1, (rd_T42 l0_1 x13_1).f1.f2⟩ : S27)⟩ : S42)]) true (wrap64 (x13_1 + 1)) a0_0 l0_1 a2_0 a2_1 a2_2) else (none))) else (none)) else (if x11_1.length < 3518437208883 then (colloquyref17_Put.l0 k1 a1 (x11_1 ++ [(⟨(rd_T42 l0_1 x13_1).f0, (⟨(rd_T42 l0_1 x13_1).f1.f0, (rd_T42 l0_1 x13_1).f1.f1, (rd_T42 l0_1 x13_1).f1.f2⟩ : S27)⟩ : S42)]) false (wrap64 (x13_1 + 1)) a0_0 l0_1 a2_0 a2_1 a2_2) else (none))) else (none)) = some (r1, r2, r3) := by rw [if_neg (show ¬ (false = true) by decide)] at H; exact H
       clear H
       have H := H1
       clear H1
       by_cases c42 : 0 ≤ x13_1
       ·
        rw [if_pos c42] at H
        have c42b0 : decide (0 ≤ x13_1) = true := decide_eq_true c42
        clear c42
        by_cases c43 : ((rd_T42 l0_1 x13_1).f0) > a1
        ·
         rw [if_pos c43] at H
         have c43b0 : decide (a1 < ((rd_T42 l0_1 x13_1).f0)) = true := decide_eq_true c43
         clear c43
         by_cases c44 : x11_1.length < 3518437208883
         ·
          rw [if_pos c44] at H
          have LMc44 := Aside0.mk c44
          clear c44
          obtain ⟨y159, hy159⟩ : ∃ y_ : List (S42), y_ = (x11_1 ++ [(⟨a1, (⟨a2_0, a2_1, a2_2⟩ : S27)⟩ : S42)]) := ⟨_, rfl⟩
          replace H : (if y159.length < 3518437208883 then (colloquyref17_Put.l0 k1 a1 (y159 ++ [(⟨(rd_T42 l0_1 x13_1).f0, (⟨(rd_T42 l0_1 x13_1).f1.f0, (rd_T42 l0_1 x13_1).f1.f1, (rd_T42 l0_1 x13_1).f1.f2⟩ : S27)⟩ : S42)]) true (wrap64 (x13_1 + 1)) a0_0 l0_1 a2_0 a2_1 a2_2) else (none)) = some (r1, r2, r3) := by first | (rw [hy159]; with_reducible exact H) | (have H2_ := (Option.bind_some _ _).symm.trans H; rw [hy159]; with_reducible exact H2_) | (have H2_ := (Option.bind_some _ _).symm.trans H; with_reducible exact H2_) | with_reducible exact H | (rw [hy159]; exact H) | exact H
          have Ny159 := Aside0.mk hy159
          clear hy159
          by_cases c45 : y159.length < 3518437208883
          ·
           rw [if_pos c45] at H
           have LMc45 := Aside0.mk c45
           clear c45
           obtain ⟨y163, hy163⟩ : ∃ y_ : List (S42), y_ = (y159 ++ [(⟨(rd_T42 l0_1 x13_1).f0, (⟨(rd_T42 l0_1 x13_1).f1.f0, (rd_T42 l0_1 x13_1).f1.f1, (rd_T42 l0_1 x13_1).f1.f2⟩ : S27)⟩ : S42)]) := ⟨_, rfl⟩
           replace H : (colloquyref17_Put.l0 k1 a1 y163 true (wrap64 (x13_1 + 1)) a0_0 l0_1 a2_0 a2_1 a2_2) = some (r1, r2, r3) := by first | (rw [hy163]; with_reducible exact H) | (have H2_ := (Option.bind_some _ _).symm.trans H; rw [hy163]; with_reducible exact H2_) | (have H2_ := (Option.bind_some _ _).symm.trans H; with_reducible exact H2_) | with_reducible exact H | (rw [hy163]; exact H) | exact H
           have Ny163 := Aside0.mk hy163
           clear hy163
           have H' := Aside0.mk H
           clear H
           have hnb46 := NB145_146.out
           have hnc46 := NB146_145.out
           have hnb47 := NB145_147.out
           have hnc47 := NB147_145.out
           have hnb48 := NB145_153.out
           have hnc48 := NB153_145.out
           have hcz49_0 : wr.cell? ⟨gb145, 0, none⟩ = some (.int .i64 a0_0) := (Z4l BK145.out 0).trans rfl
           have hcz49_1 : wr.cell? ⟨gb145, 1, none⟩ = some (.slice A0_1 l0_1.length c0_1) := (Z4l BK145.out 1).trans rfl
           have hfz49_0 := blk_frozen BK145.out 0
           have hfz49_1 := blk_frozen BK145.out 1
           have p158 : 0 ≤ (x13_1 : Int) := of_decide_eq_true (by first | (with_reducible assumption) | assumption)
           have q158 : x13_1 < (l0_1.length : Int) := of_decide_eq_true (by first | (with_reducible assumption) | assumption)
           obtain ⟨ad158, e158, hx158_0, hx158_1, hx158_2, hx158_3⟩ := at_T42 HR0_1.out x13_1 p158 q158
           cases e158
           replace hx158_0 := (HB.out.cell (Z4g w _ hx158_0)).trans hx158_0
           replace hx158_1 := (HB.out.cell (Z4g w _ hx158_1)).trans hx158_1
           replace hx158_2 := (HB.out.cell (Z4g w _ hx158_2)).trans hx158_2
           replace hx158_3 := (HB.out.cell (Z4g w _ hx158_3)).trans hx158_3
           replace p158 := eq_true p158
           replace q158 := eq_true q158
           have hnb50 := NB146_147.out
           have hnc50 := NB147_146.out
           have hnb51 := NB146_153.out
           have hnc51 := NB153_146.out
           have hcz52_0 : wr.cell? ⟨gb146, 0, none⟩ = some (.int .i64 a2_0) := (Z4l BK146.out 0).trans rfl
           have hcz52_1 : wr.cell? ⟨gb146, 1, none⟩ = some (.int .i64 a2_1) := (Z4l BK146.out 1).trans rfl
           have hcz52_2 : wr.cell? ⟨gb146, 2, none⟩ = some (.string a2_2) := (Z4l BK146.out 2).trans rfl
           have hfz52_0 := blk_frozen BK146.out 0
           have hfz52_1 := blk_frozen BK146.out 1
           have hfz52_2 := blk_frozen BK146.out 2
           go_wp2_with (first | ((with_reducible refine gate_builtin (b := .append) (xs := #[.tmp 47, .tmp 51]) rfl ?_); at_builtin; refine Kd.Q_append k42 (w0 := w) w.heap.size rfl (.tmp 47) (.tmp 51) 22 42 (.agg #[(.int .i64 0), (.int .i64 0), (.int .i64 0), (.string ⟨#[]⟩)]) 40 rfl Try.underlying22 info42 rfl (by decide) (by omega) u11 x11_1 (⟨a1, (⟨a2_0, a2_1, a2_2⟩ : S27)⟩ : S42) [.int .i64 a1, .int .i64 a2_0, .int .i64 a2_1, .string a2_2] (fun _ => True) (fun _ => False) rfl rfl ?aP (fun _ hk => hk.elim) ?aF ?aO ?aB ?aS ?aL ?_; (case aP => exact k42_mkM _ _ _ (⟨a1, (⟨a2_0, a2_1, a2_2⟩ : S27)⟩ : S42)); (case aB => exact (by repeat (first | (with_reducible first | exact HB.out | apply Z4j | apply Z4h | apply Z4i | refine Z4k ?_ GE145.out | refine Z4k ?_ GE146.out | refine Z4k ?_ GE147.out | refine Z4k ?_ GE153.out) | exact HB.out))); (case aF => exact (fun _ _ => trivial)); (case aO => exact (by (with_reducible repeat (first | apply Kd.Q_alloc | apply Kd.Q_drewN | apply Kd.Q_drew)); exact HO_11.out)); (case aS => exact (below_size (by repeat (first | (with_reducible first | exact HB.out | apply Z4j | apply Z4h | apply Z4i | refine Z4k ?_ GE145.out | refine Z4k ?_ GE146.out | refine Z4k ?_ GE147.out | refine Z4k ?_ GE153.out) | exact HB.out)))); (case aL => have := LMc44.out; omega); intro v160 w53 ho hb hg hat; rw [← Ny159.out] at ho; have n0_ := Aside0.mk (blk_grown (g := gb145) (o := .cells #[.int .i64 a0_0, .slice (some ad158) l0_1.length c0_1] 24 (0, 0)) (by (with_reducible repeat (first | refine Z4d ?_ _ | refine Z4e ?_ | refine Z4f ?_ _)); exact BK145.out) hg (Kd.Q_ne HO_11.out BK145.out (by decide))); have n1_ := Aside0.mk (blk_grown (g := gb146) (o := .cells #[.int .i64 a2_0, .int .i64 a2_1, .string a2_2] 27 (0, 0)) (by (with_reducible repeat (first | refine Z4d ?_ _ | refine Z4e ?_ | refine Z4f ?_ _)); exact BK146.out) hg (Kd.Q_ne HO_11.out BK146.out (by decide))); have n2_ := Aside0.mk (blk_grown (g := gb147) (o := .cells #[.int .i64 0, .slice none 0 0] 24 (0, 0)) (by (with_reducible repeat (first | refine Z4d ?_ _ | refine Z4e ?_ | refine Z4f ?_ _)); exact BK147.out) hg (Kd.Q_ne HO_11.out BK147.out (by decide))); have n3_ := Aside0.mk (blk_grown (g := gb153) (o := .cells #[.int .i64 t148, .int .i64 t149, .string t150] 27 (0, 0)) (by (with_reducible repeat (first | refine Z4d ?_ _ | refine Z4e ?_ | refine Z4f ?_ _)); exact BK153.out) hg (Kd.Q_ne HO_11.out BK153.out (by decide))); have n4_ := Aside0.mk (hb); have n5_ := Aside0.mk (ho); clear BK145; clear BK146; clear BK147; clear BK153; clear HB; clear HO_11; have BK145 := n0_; have BK146 := n1_; have BK147 := n2_; have BK153 := n3_; have HB := n4_; have HO161 := n5_; clear n0_ n1_ n2_ n3_ n4_ n5_; clear ho hb hg hat; have hcz54_0 : w53.cell? ⟨gb145, 0, none⟩ = some (.int .i64 a0_0) := (Z4l BK145.out 0).trans rfl; have hcz54_1 : w53.cell? ⟨gb145, 1, none⟩ = some (.slice (some ad158) l0_1.length c0_1) := (Z4l BK145.out 1).trans rfl; have hfz54_0 := blk_frozen BK145.out 0; have hfz54_1 := blk_frozen BK145.out 1; have p162 : 0 ≤ (x13_1 : Int) := of_decide_eq_true (by first | (with_reducible assumption) | assumption); have q162 : x13_1 < (l0_1.length : Int) := of_decide_eq_true (by first | (with_reducible assumption) | assumption); obtain ⟨ad162, e162, hx162_0, hx162_1, hx162_2, hx162_3⟩ := at_T42 HR0_1.out x13_1 p162 q162; obtain rfl : ad158 = ad162 := (by injection e162); replace hx162_0 := (HB.out.cell (Z4g w _ hx162_0)).trans hx162_0; replace hx162_1 := (HB.out.cell (Z4g w _ hx162_1)).trans hx162_1; replace hx162_2 := (HB.out.cell (Z4g w _ hx162_2)).trans hx162_2; replace hx162_3 := (HB.out.cell (Z4g w _ hx162_3)).trans hx162_3; replace p162 := eq_true p162; replace q162 := eq_true q162) | ((with_reducible refine gate_builtin (b := .append) (xs := #[.tmp 53, .tmp 59]) rfl ?_); at_builtin; refine Kd.Q_append k42 (w0 := w) w.heap.size rfl (.tmp 53) (.tmp 59) 22 42 (.agg #[(.int .i64 0), (.int .i64 0), (.int .i64 0), (.string ⟨#[]⟩)]) 40 rfl Try.underlying22 info42 rfl (by decide) (by omega) v160 y159 (⟨(rd_T42 l0_1 x13_1).f0, (⟨(rd_T42 l0_1 x13_1).f1.f0, (rd_T42 l0_1 x13_1).f1.f1, (rd_T42 l0_1 x13_1).f1.f2⟩ : S27)⟩ : S42) [.int .i64 ((rd_T42 l0_1 x13_1).f0), .int .i64 ((rd_T42 l0_1 x13_1).f1.f0), .int .i64 ((rd_T42 l0_1 x13_1).f1.f1), .string ((rd_T42 l0_1 x13_1).f1.f2)] (fun _ => True) (fun _ => False) rfl rfl ?aP (fun _ hk => hk.elim) ?aF ?aO ?aB ?aS ?aL ?_; (case aP => exact k42_mkM _ _ _ (⟨(rd_T42 l0_1 x13_1).f0, (⟨(rd_T42 l0_1 x13_1).f1.f0, (rd_T42 l0_1 x13_1).f1.f1, (rd_T42 l0_1 x13_1).f1.f2⟩ : S27)⟩ : S42)); (case aB => exact (by repeat (first | (with_reducible first | exact HB.out | apply Z4j | apply Z4h | apply Z4i | refine Z4k ?_ GE145.out | refine Z4k ?_ GE146.out | refine Z4k ?_ GE147.out | refine Z4k ?_ GE153.out) | exact HB.out))); (case aF => exact (fun _ _ => trivial)); (case aO => exact (by (with_reducible repeat (first | apply Kd.Q_alloc | apply Kd.Q_drewN | apply Kd.Q_drew)); exact HO161.out)); (case aS => exact (below_size (by repeat (first | (with_reducible first | exact HB.out | apply Z4j | apply Z4h | apply Z4i | refine Z4k ?_ GE145.out | refine Z4k ?_ GE146.out | refine Z4k ?_ GE147.out | refine Z4k ?_ GE153.out) | exact HB.out)))); (case aL => have := LMc45.out; omega); intro v164 w55 ho hb hg hat; rw [← Ny163.out] at ho; have n0_ := Aside0.mk (blk_grown (g := gb145) (o := .cells #[.int .i64 a0_0, .slice (some ad158) l0_1.length c0_1] 24 (0, 0)) (by (with_reducible repeat (first | refine Z4d ?_ _ | refine Z4e ?_ | refine Z4f ?_ _)); exact BK145.out) hg (Kd.Q_ne HO161.out BK145.out (by decide))); have n1_ := Aside0.mk (blk_grown (g := gb146) (o := .cells #[.int .i64 a2_0, .int .i64 a2_1, .string a2_2] 27 (0, 0)) (by (with_reducible repeat (first | refine Z4d ?_ _ | refine Z4e ?_ | refine Z4f ?_ _)); exact BK146.out) hg (Kd.Q_ne HO161.out BK146.out (by decide))); have n2_ := Aside0.mk (blk_grown (g := gb147) (o := .cells #[.int .i64 0, .slice none 0 0] 24 (0, 0)) (by (with_reducible repeat (first | refine Z4d ?_ _ | refine Z4e ?_ | refine Z4f ?_ _)); exact BK147.out) hg (Kd.Q_ne HO161.out BK147.out (by decide))); have n3_ := Aside0.mk (blk_grown (g := gb153) (o := .cells #[.int .i64 t148, .int .i64 t149, .string t150] 27 (0, 0)) (by (with_reducible repeat (first | refine Z4d ?_ _ | refine Z4e ?_ | refine Z4f ?_ _)); exact BK153.out) hg (Kd.Q_ne HO161.out BK153.out (by decide))); have n4_ := Aside0.mk (hb); have n5_ := Aside0.mk (ho); clear BK145; clear BK146; clear BK147; clear BK153; clear HB; clear HO161; have BK145 := n0_; have BK146 := n1_; have BK147 := n2_; have BK153 := n3_; have HB := n4_; have HO165 := n5_; clear n0_ n1_ n2_ n3_ n4_ n5_; clear ho hb hg hat))
           go_roundg k1
           case measure => have := HK1.out; omega
           case rel => exact ⟨(y163), (true), (wrap64 (x13_1 + 1)), (by first | rfl | (simp; done) | (simp [*]; done)), (by first | rfl | (simp; done) | (simp [*]; done)), H', ⟨by have := HK1.out; omega⟩, ⟨by (with_reducible repeat (first | apply Kd.Q_alloc | apply Kd.Q_drewN | apply Kd.Q_drew)); exact HO165.out⟩, ⟨by (with_reducible repeat (first | refine Z4d ?_ _ | refine Z4e ?_ | refine Z4f ?_ _)); exact BK145.out⟩, ⟨by (with_reducible repeat (first | refine Z4d ?_ _ | refine Z4e ?_ | refine Z4f ?_ _)); exact BK146.out⟩, ⟨by (with_reducible repeat (first | refine Z4d ?_ _ | refine Z4e ?_ | refine Z4f ?_ _)); exact BK147.out⟩, ⟨by (with_reducible repeat (first | refine Z4d ?_ _ | refine Z4e ?_ | refine Z4f ?_ _)); exact BK153.out⟩, ⟨by repeat (first | (with_reducible first | exact HB.out | apply Z4j | apply Z4h | apply Z4i | refine Z4k ?_ GE145.out | refine Z4k ?_ GE146.out | refine Z4k ?_ GE147.out | refine Z4k ?_ GE153.out) | exact HB.out)⟩⟩
          ·
           rw [if_neg c45] at H
           exact absurd H (by simp)
         ·
          rw [if_neg c44] at H
          exact absurd H (by simp)
        ·
         rw [if_neg c43] at H
         have c43b0 : decide (a1 < ((rd_T42 l0_1 x13_1).f0)) = false := decide_eq_false c43
         clear c43
         by_cases c56 : x11_1.length < 3518437208883
         ·
          rw [if_pos c56] at H
          have LMc56 := Aside0.mk c56
          clear c56
          obtain ⟨y167, hy167⟩ : ∃ y_ : List (S42), y_ = (x11_1 ++ [(⟨(rd_T42 l0_1 x13_1).f0, (⟨(rd_T42 l0_1 x13_1).f1.f0, (rd_T42 l0_1 x13_1).f1.f1, (rd_T42 l0_1 x13_1).f1.f2⟩ : S27)⟩ : S42)]) := ⟨_, rfl⟩
          replace H : (colloquyref17_Put.l0 k1 a1 y167 false (wrap64 (x13_1 + 1)) a0_0 l0_1 a2_0 a2_1 a2_2) = some (r1, r2, r3) := by first | (rw [hy167]; with_reducible exact H) | (have H2_ := (Option.bind_some _ _).symm.trans H; rw [hy167]; with_reducible exact H2_) | (have H2_ := (Option.bind_some _ _).symm.trans H; with_reducible exact H2_) | with_reducible exact H | (rw [hy167]; exact H) | exact H
          have Ny167 := Aside0.mk hy167
          clear hy167
          have H' := Aside0.mk H
          clear H
          have hnb57 := NB145_146.out
          have hnc57 := NB146_145.out
          have hnb58 := NB145_147.out
          have hnc58 := NB147_145.out
          have hnb59 := NB145_153.out
          have hnc59 := NB153_145.out
          have hcz60_0 : wr.cell? ⟨gb145, 0, none⟩ = some (.int .i64 a0_0) := (Z4l BK145.out 0).trans rfl
          have hcz60_1 : wr.cell? ⟨gb145, 1, none⟩ = some (.slice A0_1 l0_1.length c0_1) := (Z4l BK145.out 1).trans rfl
          have hfz60_0 := blk_frozen BK145.out 0
          have hfz60_1 := blk_frozen BK145.out 1
          have p158 : 0 ≤ (x13_1 : Int) := of_decide_eq_true (by first | (with_reducible assumption) | assumption)
          have q158 : x13_1 < (l0_1.length : Int) := of_decide_eq_true (by first | (with_reducible assumption) | assumption)
          obtain ⟨ad158, e158, hx158_0, hx158_1, hx158_2, hx158_3⟩ := at_T42 HR0_1.out x13_1 p158 q158
          cases e158
          replace hx158_0 := (HB.out.cell (Z4g w _ hx158_0)).trans hx158_0
          replace hx158_1 := (HB.out.cell (Z4g w _ hx158_1)).trans hx158_1
          replace hx158_2 := (HB.out.cell (Z4g w _ hx158_2)).trans hx158_2
          replace hx158_3 := (HB.out.cell (Z4g w _ hx158_3)).trans hx158_3
          replace p158 := eq_true p158
          replace q158 := eq_true q158
          have p166 : 0 ≤ (x13_1 : Int) := of_decide_eq_true (by first | (with_reducible assumption) | assumption)
          have q166 : x13_1 < (l0_1.length : Int) := of_decide_eq_true (by first | (with_reducible assumption) | assumption)
          obtain ⟨ad166, e166, hx166_0, hx166_1, hx166_2, hx166_3⟩ := at_T42 HR0_1.out x13_1 p166 q166
          obtain rfl : ad158 = ad166 := (by injection e166)
          replace hx166_0 := (HB.out.cell (Z4g w _ hx166_0)).trans hx166_0
          replace hx166_1 := (HB.out.cell (Z4g w _ hx166_1)).trans hx166_1
          replace hx166_2 := (HB.out.cell (Z4g w _ hx166_2)).trans hx166_2
          replace hx166_3 := (HB.out.cell (Z4g w _ hx166_3)).trans hx166_3
          replace p166 := eq_true p166
          replace q166 := eq_true q166
          go_wp2_with (first | ((with_reducible refine gate_builtin (b := .append) (xs := #[.tmp 53, .tmp 59]) rfl ?_); at_builtin; refine Kd.Q_append k42 (w0 := w) w.heap.size rfl (.tmp 53) (.tmp 59) 22 42 (.agg #[(.int .i64 0), (.int .i64 0), (.int .i64 0), (.string ⟨#[]⟩)]) 40 rfl Try.underlying22 info42 rfl (by decide) (by omega) u11 x11_1 (⟨(rd_T42 l0_1 x13_1).f0, (⟨(rd_T42 l0_1 x13_1).f1.f0, (rd_T42 l0_1 x13_1).f1.f1, (rd_T42 l0_1 x13_1).f1.f2⟩ : S27)⟩ : S42) [.int .i64 ((rd_T42 l0_1 x13_1).f0), .int .i64 ((rd_T42 l0_1 x13_1).f1.f0), .int .i64 ((rd_T42 l0_1 x13_1).f1.f1), .string ((rd_T42 l0_1 x13_1).f1.f2)] (fun _ => True) (fun _ => False) rfl rfl ?aP (fun _ hk => hk.elim) ?aF ?aO ?aB ?aS ?aL ?_; (case aP => exact k42_mkM _ _ _ (⟨(rd_T42 l0_1 x13_1).f0, (⟨(rd_T42 l0_1 x13_1).f1.f0, (rd_T42 l0_1 x13_1).f1.f1, (rd_T42 l0_1 x13_1).f1.f2⟩ : S27)⟩ : S42)); (case aB => exact (by repeat (first | (with_reducible first | exact HB.out | apply Z4j | apply Z4h | apply Z4i | refine Z4k ?_ GE145.out | refine Z4k ?_ GE146.out | refine Z4k ?_ GE147.out | refine Z4k ?_ GE153.out) | exact HB.out))); (case aF => exact (fun _ _ => trivial)); (case aO => exact (by (with_reducible repeat (first | apply Kd.Q_alloc | apply Kd.Q_drewN | apply Kd.Q_drew)); exact HO_11.out)); (case aS => exact (below_size (by repeat (first | (with_reducible first | exact HB.out | apply Z4j | apply Z4h | apply Z4i | refine Z4k ?_ GE145.out | refine Z4k ?_ GE146.out | refine Z4k ?_ GE147.out | refine Z4k ?_ GE153.out) | exact HB.out)))); (case aL => have := LMc56.out; omega); intro v168 w61 ho hb hg hat; rw [← Ny167.out] at ho; have n0_ := Aside0.mk (blk_grown (g := gb145) (o := .cells #[.int .i64 a0_0, .slice (some ad158) l0_1.length c0_1] 24 (0, 0)) (by (with_reducible repeat (first | refine Z4d ?_ _ | refine Z4e ?_ | refine Z4f ?_ _)); exact BK145.out) hg (Kd.Q_ne HO_11.out BK145.out (by decide))); have n1_ := Aside0.mk (blk_grown (g := gb146) (o := .cells #[.int .i64 a2_0, .int .i64 a2_1, .string a2_2] 27 (0, 0)) (by (with_reducible repeat (first | refine Z4d ?_ _ | refine Z4e ?_ | refine Z4f ?_ _)); exact BK146.out) hg (Kd.Q_ne HO_11.out BK146.out (by decide))); have n2_ := Aside0.mk (blk_grown (g := gb147) (o := .cells #[.int .i64 0, .slice none 0 0] 24 (0, 0)) (by (with_reducible repeat (first | refine Z4d ?_ _ | refine Z4e ?_ | refine Z4f ?_ _)); exact BK147.out) hg (Kd.Q_ne HO_11.out BK147.out (by decide))); have n3_ := Aside0.mk (blk_grown (g := gb153) (o := .cells #[.int .i64 t148, .int .i64 t149, .string t150] 27 (0, 0)) (by (with_reducible repeat (first | refine Z4d ?_ _ | refine Z4e ?_ | refine Z4f ?_ _)); exact BK153.out) hg (Kd.Q_ne HO_11.out BK153.out (by decide))); have n4_ := Aside0.mk (hb); have n5_ := Aside0.mk (ho); clear BK145; clear BK146; clear BK147; clear BK153; clear HB; clear HO_11; have BK145 := n0_; have BK146 := n1_; have BK147 := n2_; have BK153 := n3_; have HB := n4_; have HO169 := n5_; clear n0_ n1_ n2_ n3_ n4_ n5_; clear ho hb hg hat))
          go_roundg k1
          case measure => have := HK1.out; omega
          case rel => exact ⟨(y167), (false), (wrap64 (x13_1 + 1)), (by first | rfl | (simp; done) | (simp [*]; done)), (by first | rfl | (simp; done) | (simp [*]; done)), H', ⟨by have := HK1.out; omega⟩, ⟨by (with_reducible repeat (first | apply Kd.Q_alloc | apply Kd.Q_drewN | apply Kd.Q_drew)); exact HO169.out⟩, ⟨by (with_reducible repeat (first | refine Z4d ?_ _ | refine Z4e ?_ | refine Z4f ?_ _)); exact BK145.out⟩, ⟨by (with_reducible repeat (first | refine Z4d ?_ _ | refine Z4e ?_ | refine Z4f ?_ _)); exact BK146.out⟩, ⟨by (with_reducible repeat (first | refine Z4d ?_ _ | refine Z4e ?_ | refine Z4f ?_ _)); exact BK147.out⟩, ⟨by (with_reducible repeat (first | refine Z4d ?_ _ | refine Z4e ?_ | refine Z4f ?_ _)); exact BK153.out⟩, ⟨by repeat (first | (with_reducible first | exact HB.out | apply Z4j | apply Z4h | apply Z4i | refine Z4k ?_ GE145.out | refine Z4k ?_ GE146.out | refine Z4k ?_ GE147.out | refine Z4k ?_ GE153.out) | exact HB.out)⟩⟩
         ·
          rw [if_neg c56] at H
          exact absurd H (by simp)
       ·
        rw [if_neg c42] at H
        exact absurd H (by simp)
     ·
      rw [if_neg c33] at H
      have c33b0 : decide (x13_1 < (l0_1.length : Int)) = false := decide_eq_false c33
      clear c33
      by_cases c62 : x12_1 = true
      ·
       subst c62
       have H1 : (if (x11_1.length : Int) > 8 then (if 0 < (x11_1.length : Int) then (if 1 ≤ (x11_1.length : Int) then (some ((rd_T42 x11_1 0).f0, (x11_1.drop (1 : Int).toNat), 0)) else (none)) else (none)) else (some (a0_0, x11_1, 0))) = some (r1, r2, r3) := by rw [if_pos rfl] at H; exact H
       clear H
       have H := H1
       clear H1
       by_cases c63 : (x11_1.length : Int) > 8
       ·
        rw [if_pos c63] at H
        have c63b0 : decide (8 < (x11_1.length : Int)) = true := decide_eq_true c63
        have c63b1 : decide (8 < x11_1.length) = true := decide_eq_true (by omega)
        clear c63
        by_cases c64 : 0 < (x11_1.length : Int)
        ·
         rw [if_pos c64] at H
         have c64b0 : decide (0 < (x11_1.length : Int)) = true := decide_eq_true c64
         have c64b1 : decide (0 < x11_1.length) = true := decide_eq_true (by omega)
         clear c64
         by_cases c65 : 1 ≤ (x11_1.length : Int)
         ·
          rw [if_pos c65] at H
          have c65b0 := eq_true c65
          have c65b1 : decide (1 ≤ (x11_1.length : Int)) = true := decide_eq_true c65
          clear c65
          obtain ⟨y171, hy171⟩ : ∃ y_ : List (S42), y_ = (x11_1.drop (1 : Int).toNat) := ⟨_, rfl⟩
          replace H : (some ((rd_T42 x11_1 0).f0, y171, 0)) = some (r1, r2, r3) := by first | (rw [hy171]; with_reducible exact H) | (have H2_ := (Option.bind_some _ _).symm.trans H; rw [hy171]; with_reducible exact H2_) | (have H2_ := (Option.bind_some _ _).symm.trans H; with_reducible exact H2_) | with_reducible exact H | (rw [hy171]; exact H) | exact H
          have Ny171 := Aside0.mk hy171
          clear hy171
          simp only [Option.some.injEq, Prod.mk.injEq] at H
          obtain ⟨rfl, rfl, rfl⟩ := H
          have hnb66 := NB145_146.out
          have hnc66 := NB146_145.out
          have hnb67 := NB145_147.out
          have hnc67 := NB147_145.out
          have hnb68 := NB145_153.out
          have hnc68 := NB153_145.out
          have hcz69_0 : wr.cell? ⟨gb145, 0, none⟩ = some (.int .i64 a0_0) := (Z4l BK145.out 0).trans rfl
          have hcz69_1 : wr.cell? ⟨gb145, 1, none⟩ = some (.slice A0_1 l0_1.length c0_1) := (Z4l BK145.out 1).trans rfl
          have hfz69_0 := blk_frozen BK145.out 0
          have hfz69_1 := blk_frozen BK145.out 1
          obtain ⟨Ao70, co70, eo70, _⟩ := Kd.Q_slice HO_11.out
          subst eo70
          have p170 : 0 ≤ (0 : Int) := (by omega)
          have q170 : 0 < (x11_1.length : Int) := of_decide_eq_true (by first | (with_reducible assumption) | assumption)
          obtain ⟨ad170, e170, hx170_0, hx170_1, hx170_2, hx170_3⟩ := at_T42 (Kd.Q_reads' HO_11.out).2.2 0 p170 q170
          cases e170
          have qi170 : (0 < x11_1.length) = True := eq_true (by omega)
          (try rw [show ((0 : Int)).toNat = 0 from rfl] at hx170_0)
          (try rw [show 0 * 4 = 0 from rfl] at hx170_0)
          (try rw [Addr.add_zero'] at hx170_0)
          (try rw [show ((0 : Int)).toNat = 0 from rfl] at hx170_1)
          (try rw [show 0 * 4 = 0 from rfl] at hx170_1)
          (try rw [Addr.add_zero'] at hx170_1)
          (try rw [show ((0 : Int)).toNat = 0 from rfl] at hx170_2)
          (try rw [show 0 * 4 = 0 from rfl] at hx170_2)
          (try rw [Addr.add_zero'] at hx170_2)
          (try rw [show ((0 : Int)).toNat = 0 from rfl] at hx170_3)
          (try rw [show 0 * 4 = 0 from rfl] at hx170_3)
          (try rw [Addr.add_zero'] at hx170_3)
          replace p170 := eq_true p170
          replace q170 := eq_true q170
          have q71 : (1 : Int) ≤ ((x11_1.length : Int) : Int) := of_decide_eq_true (by first | (with_reducible assumption) | assumption)
          obtain ⟨i071, hi071, _, hsz71, _⟩ := info_parts info42
          have hcut71 := cut_from (P := Try.prog) 22 42 .i64 Try.underlying22 hi071 4 hsz71 (some ad170) x11_1.length co70 1 (by omega) q71
          have hr71 := Kd.Q_drop (k := (1 : Int).toNat) HO_11.out (by omega)
          obtain ⟨A71, hA71⟩ : ∃ A1, A1 = (if co70 = (1 : Int).toNat then (some ad170) else ((some ad170) : Option Addr).map (·.add ((1 : Int).toNat * 4))) := ⟨_, rfl⟩
          obtain ⟨c71, hc71⟩ : ∃ c1, c1 = co70 - (1 : Int).toNat := ⟨_, rfl⟩
          have hy71 : y171.length = x11_1.length - (1 : Int).toNat := (by rw [Ny171.out, List.length_drop])
          rw [← Ny171.out] at hr71
          rw [← hy71, ← hA71, ← hc71] at hcut71
          replace hr71 : Kd.Q k42 42 wr w.heap.size (fun _ => True) (.slice A71 y171.length c71) y171 := (by rw [hA71, hc71, hy71]; exact hr71)
          have HE71 : Aside0 ((Value.slice A71 y171.length c71).ownBlock = (.slice (some ad170) x11_1.length co70 : Value).ownBlock) := ⟨by rw [hA71]; split <;> (cases ((some ad170) : Option Addr) <;> rfl)⟩
          clear hy71 hi071 hsz71 HO_11 hA71 hc71
          have HO173 := Aside0.mk hr71
          clear hr71
          replace q71 := eq_true q71
          have hnb72 := NB147_146.out
          have hnc72 := NB146_147.out
          have hnb73 := NB147_153.out
          have hnc73 := NB153_147.out
          have hcz74_0 : wr.cell? ⟨gb147, 0, none⟩ = some (.int .i64 0) := (Z4l BK147.out 0).trans rfl
          have hcz74_1 : wr.cell? ⟨gb147, 1, none⟩ = some (.slice none 0 0) := (Z4l BK147.out 1).trans rfl
          have hfz74_0 := blk_frozen BK147.out 0
          have hfz74_1 := blk_frozen BK147.out 1
          go_wp2
          refine bodyPost_ret (results_ct rfl _ _ gb147 24 #[.int .i64 ((rd_T42 x11_1 0).f0), .slice A71 y171.length c71] (0, 0) _ rfl (by (with_reducible repeat (first | refine Z4d ?_ _ | refine Z4e ?_ | refine Z4f ?_ _)); refine blk_put (cs := #[.int .i64 ((rd_T42 x11_1 0).f0), .slice none 0 0]) ?_ 1 _ rfl; (with_reducible repeat (first | refine Z4d ?_ _ | refine Z4e ?_ | refine Z4f ?_ _)); refine blk_put (cs := #[.int .i64 0, .slice none 0 0]) ?_ 0 _ rfl; (with_reducible repeat (first | refine Z4d ?_ _ | refine Z4e ?_ | refine Z4f ?_ _)); exact BK147.out) Try.underlying24 rfl (by kernel_rfl)) rfl ?_
          exact ⟨_, by first | rfl | (simp [errW_none, errW_some] <;> rfl) | (simp [*, errW_none, errW_some] <;> rfl), by (with_reducible repeat (first | apply Kd.Q_alloc | apply Kd.Q_drewN | apply Kd.Q_drew)); exact Kd.Q_mono (Kd.Q_far (p := ⟨gb147, 1, none⟩) (Kd.Q_far (p := ⟨gb147, 0, none⟩) (Kd.Q_types HO173.out BK147.out (by decide)) (fun _ hk => hk.2) (.int .i64 ((rd_T42 x11_1 0).f0))) (fun _ hk => hk.2) (.slice A71 y171.length c71)) (fun _ hk => trivial), by repeat (first | (with_reducible first | exact HB.out | apply Z4j | apply Z4h | apply Z4i | refine Z4k ?_ GE145.out | refine Z4k ?_ GE146.out | refine Z4k ?_ GE147.out | refine Z4k ?_ GE153.out) | exact HB.out)⟩
         ·
          rw [if_neg c65] at H
          exact absurd H (by simp)
        ·
         rw [if_neg c64] at H
         exact absurd H (by simp)
       ·
        rw [if_neg c63] at H
        have c63b0 : decide (8 < (x11_1.length : Int)) = false := decide_eq_false c63
        have c63b1 : decide (8 < x11_1.length) = false := decide_eq_false (by omega)
        clear c63
        simp only [Option.some.injEq, Prod.mk.injEq] at H
        obtain ⟨rfl, rfl, rfl⟩ := H
        have hnb75 := NB145_146.out
        have hnc75 := NB146_145.out
        have hnb76 := NB145_147.out
        have hnc76 := NB147_145.out
        have hnb77 := NB145_153.out
        have hnc77 := NB153_145.out
        have hcz78_0 : wr.cell? ⟨gb145, 0, none⟩ = some (.int .i64 a0_0) := (Z4l BK145.out 0).trans rfl
        have hcz78_1 : wr.cell? ⟨gb145, 1, none⟩ = some (.slice A0_1 l0_1.length c0_1) := (Z4l BK145.out 1).trans rfl
        have hfz78_0 := blk_frozen BK145.out 0
        have hfz78_1 := blk_frozen BK145.out 1
        obtain ⟨Ao79, co79, eo79, _⟩ := Kd.Q_slice HO_11.out
        subst eo79
        have hnb80 := NB147_146.out
        have hnc80 := NB146_147.out
        have hnb81 := NB147_153.out
        have hnc81 := NB153_147.out
        have hcz82_0 : wr.cell? ⟨gb147, 0, none⟩ = some (.int .i64 0) := (Z4l BK147.out 0).trans rfl
        have hcz82_1 : wr.cell? ⟨gb147, 1, none⟩ = some (.slice none 0 0) := (Z4l BK147.out 1).trans rfl
        have hfz82_0 := blk_frozen BK147.out 0
        have hfz82_1 := blk_frozen BK147.out 1
        go_wp2
        refine bodyPost_ret (results_ct rfl _ _ gb147 24 #[.int .i64 a0_0, .slice Ao79 x11_1.length co79] (0, 0) _ rfl (by (with_reducible repeat (first | refine Z4d ?_ _ | refine Z4e ?_ | refine Z4f ?_ _)); refine blk_put (cs := #[.int .i64 a0_0, .slice none 0 0]) ?_ 1 _ rfl; (with_reducible repeat (first | refine Z4d ?_ _ | refine Z4e ?_ | refine Z4f ?_ _)); refine blk_put (cs := #[.int .i64 0, .slice none 0 0]) ?_ 0 _ rfl; (with_reducible repeat (first | refine Z4d ?_ _ | refine Z4e ?_ | refine Z4f ?_ _)); exact BK147.out) Try.underlying24 rfl (by kernel_rfl)) rfl ?_
        exact ⟨_, by first | rfl | (simp [errW_none, errW_some] <;> rfl) | (simp [*, errW_none, errW_some] <;> rfl), by (with_reducible repeat (first | apply Kd.Q_alloc | apply Kd.Q_drewN | apply Kd.Q_drew)); exact Kd.Q_mono (Kd.Q_far (p := ⟨gb147, 1, none⟩) (Kd.Q_far (p := ⟨gb147, 0, none⟩) (Kd.Q_types HO_11.out BK147.out (by decide)) (fun _ hk => hk.2) (.int .i64 a0_0)) (fun _ hk => hk.2) (.slice Ao79 x11_1.length co79)) (fun _ hk => trivial), by repeat (first | (with_reducible first | exact HB.out | apply Z4j | apply Z4h | apply Z4i | refine Z4k ?_ GE145.out | refine Z4k ?_ GE146.out | refine Z4k ?_ GE147.out | refine Z4k ?_ GE153.out) | exact HB.out)⟩
      ·
       replace c62 := Bool.eq_false_iff.mpr c62
       subst c62
       have H1 : (if x11_1.length < 3518437208883 then ((some (x11_1 ++ [(⟨a1, (⟨a2_0, a2_1, a2_2⟩ : S27)⟩ : S42)] : List (S42))).bind fun y174 => (if (y174.length : Int) > 8 then (if 0 < (y174.length : Int) then (if 1 ≤ (y174.length : Int) then (some ((rd_T42 y174 0).f0, (y174.drop (1 : Int).toNat), 0)) else (none)) else (none)) else (some (a0_0, y174, 0)))) else (none)) = some (r1, r2, r3) := by rw [if_neg (show ¬ (false = true) by decide)] at H; exact H
       clear H
       have H := H1
       clear H1
       by_cases c83 : x11_1.length < 3518437208883
       ·
        rw [if_pos c83] at H
        have LMc83 := Aside0.mk c83
        clear c83
        obtain ⟨y174, hy174⟩ : ∃ y_ : List (S42), y_ = (x11_1 ++ [(⟨a1, (⟨a2_0, a2_1, a2_2⟩ : S27)⟩ : S42)]) := ⟨_, rfl⟩
        replace H : (if (y174.length : Int) > 8 then (if 0 < (y174.length : Int) then (if 1 ≤ (y174.length : Int) then (some ((rd_T42 y174 0).f0, (y174.drop (1 : Int).toNat), 0)) else (none)) else (none)) else (some (a0_0, y174, 0))) = some (r1, r2, r3) := by first | (rw [hy174]; with_reducible exact H) | (have H2_ := (Option.bind_some _ _).symm.trans H; rw [hy174]; with_reducible exact H2_) | (have H2_ := (Option.bind_some _ _).symm.trans H; with_reducible exact H2_) | with_reducible exact H | (rw [hy174]; exact H) | exact H
        have Ny174 := Aside0.mk hy174
        clear hy174
        by_cases c84 : (y174.length : Int) > 8
        ·
         rw [if_pos c84] at H
         have c84b0 : decide (8 < (y174.length : Int)) = true := decide_eq_true c84
         have c84b1 : decide (8 < y174.length) = true := decide_eq_true (by omega)
         clear c84
         by_cases c85 : 0 < (y174.length : Int)
         ·
          rw [if_pos c85] at H
          have c85b0 : decide (0 < (y174.length : Int)) = true := decide_eq_true c85
          have c85b1 : decide (0 < y174.length) = true := decide_eq_true (by omega)
          clear c85
          by_cases c86 : 1 ≤ (y174.length : Int)
          ·
           rw [if_pos c86] at H
           have c86b0 := eq_true c86
           have c86b1 : decide (1 ≤ (y174.length : Int)) = true := decide_eq_true c86
           clear c86
           obtain ⟨y178, hy178⟩ : ∃ y_ : List (S42), y_ = (y174.drop (1 : Int).toNat) := ⟨_, rfl⟩
           replace H : (some ((rd_T42 y174 0).f0, y178, 0)) = some (r1, r2, r3) := by first | (rw [hy178]; with_reducible exact H) | (have H2_ := (Option.bind_some _ _).symm.trans H; rw [hy178]; with_reducible exact H2_) | (have H2_ := (Option.bind_some _ _).symm.trans H; with_reducible exact H2_) | with_reducible exact H | (rw [hy178]; exact H) | exact H
           have Ny178 := Aside0.mk hy178
           clear hy178
           simp only [Option.some.injEq, Prod.mk.injEq] at H
           obtain ⟨rfl, rfl, rfl⟩ := H
           have hnb87 := NB145_146.out
           have hnc87 := NB146_145.out
           have hnb88 := NB145_147.out
           have hnc88 := NB147_145.out
           have hnb89 := NB145_153.out
           have hnc89 := NB153_145.out
           have hcz90_0 : wr.cell? ⟨gb145, 0, none⟩ = some (.int .i64 a0_0) := (Z4l BK145.out 0).trans rfl
           have hcz90_1 : wr.cell? ⟨gb145, 1, none⟩ = some (.slice A0_1 l0_1.length c0_1) := (Z4l BK145.out 1).trans rfl
           have hfz90_0 := blk_frozen BK145.out 0
           have hfz90_1 := blk_frozen BK145.out 1
           have hnb91 := NB146_147.out
           have hnc91 := NB147_146.out
           have hnb92 := NB146_153.out
           have hnc92 := NB153_146.out
           have hcz93_0 : wr.cell? ⟨gb146, 0, none⟩ = some (.int .i64 a2_0) := (Z4l BK146.out 0).trans rfl
           have hcz93_1 : wr.cell? ⟨gb146, 1, none⟩ = some (.int .i64 a2_1) := (Z4l BK146.out 1).trans rfl
           have hcz93_2 : wr.cell? ⟨gb146, 2, none⟩ = some (.string a2_2) := (Z4l BK146.out 2).trans rfl
           have hfz93_0 := blk_frozen BK146.out 0
           have hfz93_1 := blk_frozen BK146.out 1
           have hfz93_2 := blk_frozen BK146.out 2
           go_wp2_with (first | ((with_reducible refine gate_builtin (b := .append) (xs := #[.tmp 63, .tmp 67]) rfl ?_); at_builtin; refine Kd.Q_append k42 (w0 := w) w.heap.size rfl (.tmp 63) (.tmp 67) 22 42 (.agg #[(.int .i64 0), (.int .i64 0), (.int .i64 0), (.string ⟨#[]⟩)]) 40 rfl Try.underlying22 info42 rfl (by decide) (by omega) u11 x11_1 (⟨a1, (⟨a2_0, a2_1, a2_2⟩ : S27)⟩ : S42) [.int .i64 a1, .int .i64 a2_0, .int .i64 a2_1, .string a2_2] (fun _ => True) (fun _ => False) rfl rfl ?aP (fun _ hk => hk.elim) ?aF ?aO ?aB ?aS ?aL ?_; (case aP => exact k42_mkM _ _ _ (⟨a1, (⟨a2_0, a2_1, a2_2⟩ : S27)⟩ : S42)); (case aB => exact (by repeat (first | (with_reducible first | exact HB.out | apply Z4j | apply Z4h | apply Z4i | refine Z4k ?_ GE145.out | refine Z4k ?_ GE146.out | refine Z4k ?_ GE147.out | refine Z4k ?_ GE153.out) | exact HB.out))); (case aF => exact (fun _ _ => trivial)); (case aO => exact (by (with_reducible repeat (first | apply Kd.Q_alloc | apply Kd.Q_drewN | apply Kd.Q_drew)); exact HO_11.out)); (case aS => exact (below_size (by repeat (first | (with_reducible first | exact HB.out | apply Z4j | apply Z4h | apply Z4i | refine Z4k ?_ GE145.out | refine Z4k ?_ GE146.out | refine Z4k ?_ GE147.out | refine Z4k ?_ GE153.out) | exact HB.out)))); (case aL => have := LMc83.out; omega); intro v175 w94 ho hb hg hat; rw [← Ny174.out] at ho; have n0_ := Aside0.mk (blk_grown (g := gb145) (o := .cells #[.int .i64 a0_0, .slice A0_1 l0_1.length c0_1] 24 (0, 0)) (by (with_reducible repeat (first | refine Z4d ?_ _ | refine Z4e ?_ | refine Z4f ?_ _)); exact BK145.out) hg (Kd.Q_ne HO_11.out BK145.out (by decide))); have n1_ := Aside0.mk (blk_grown (g := gb146) (o := .cells #[.int .i64 a2_0, .int .i64 a2_1, .string a2_2] 27 (0, 0)) (by (with_reducible repeat (first | refine Z4d ?_ _ | refine Z4e ?_ | refine Z4f ?_ _)); exact BK146.out) hg (Kd.Q_ne HO_11.out BK146.out (by decide))); have n2_ := Aside0.mk (blk_grown (g := gb147) (o := .cells #[.int .i64 0, .slice none 0 0] 24 (0, 0)) (by (with_reducible repeat (first | refine Z4d ?_ _ | refine Z4e ?_ | refine Z4f ?_ _)); exact BK147.out) hg (Kd.Q_ne HO_11.out BK147.out (by decide))); have n3_ := Aside0.mk (blk_grown (g := gb153) (o := .cells #[.int .i64 t148, .int .i64 t149, .string t150] 27 (0, 0)) (by (with_reducible repeat (first | refine Z4d ?_ _ | refine Z4e ?_ | refine Z4f ?_ _)); exact BK153.out) hg (Kd.Q_ne HO_11.out BK153.out (by decide))); have n4_ := Aside0.mk (hb); have n5_ := Aside0.mk (ho); clear BK145; clear BK146; clear BK147; clear BK153; clear HB; clear HO_11; have BK145 := n0_; have BK146 := n1_; have BK147 := n2_; have BK153 := n3_; have HB := n4_; have HO176 := n5_; clear n0_ n1_ n2_ n3_ n4_ n5_; clear ho hb hg hat; have hcz95_0 : w94.cell? ⟨gb145, 0, none⟩ = some (.int .i64 a0_0) := (Z4l BK145.out 0).trans rfl; have hcz95_1 : w94.cell? ⟨gb145, 1, none⟩ = some (.slice A0_1 l0_1.length c0_1) := (Z4l BK145.out 1).trans rfl; have hfz95_0 := blk_frozen BK145.out 0; have hfz95_1 := blk_frozen BK145.out 1; obtain ⟨Ao96, co96, eo96, _⟩ := Kd.Q_slice HO176.out; subst eo96; have p177 : 0 ≤ (0 : Int) := (by omega); have q177 : 0 < (y174.length : Int) := of_decide_eq_true (by first | (with_reducible assumption) | assumption); obtain ⟨ad177, e177, hx177_0, hx177_1, hx177_2, hx177_3⟩ := at_T42 (Kd.Q_reads' HO176.out).2.2 0 p177 q177; cases e177; have qi177 : (0 < y174.length) = True := eq_true (by omega); (try rw [show ((0 : Int)).toNat = 0 from rfl] at hx177_0); (try rw [show 0 * 4 = 0 from rfl] at hx177_0); (try rw [Addr.add_zero'] at hx177_0); (try rw [show ((0 : Int)).toNat = 0 from rfl] at hx177_1); (try rw [show 0 * 4 = 0 from rfl] at hx177_1); (try rw [Addr.add_zero'] at hx177_1); (try rw [show ((0 : Int)).toNat = 0 from rfl] at hx177_2); (try rw [show 0 * 4 = 0 from rfl] at hx177_2); (try rw [Addr.add_zero'] at hx177_2); (try rw [show ((0 : Int)).toNat = 0 from rfl] at hx177_3); (try rw [show 0 * 4 = 0 from rfl] at hx177_3); (try rw [Addr.add_zero'] at hx177_3); replace p177 := eq_true p177; replace q177 := eq_true q177; have q97 : (1 : Int) ≤ ((y174.length : Int) : Int) := of_decide_eq_true (by first | (with_reducible assumption) | assumption); obtain ⟨i097, hi097, _, hsz97, _⟩ := info_parts info42; have hcut97 := cut_from (P := Try.prog) 22 42 .i64 Try.underlying22 hi097 4 hsz97 (some ad177) y174.length co96 1 (by omega) q97; have hr97 := Kd.Q_drop (k := (1 : Int).toNat) HO176.out (by omega); obtain ⟨A97, hA97⟩ : ∃ A1, A1 = (if co96 = (1 : Int).toNat then (some ad177) else ((some ad177) : Option Addr).map (·.add ((1 : Int).toNat * 4))) := ⟨_, rfl⟩; obtain ⟨c97, hc97⟩ : ∃ c1, c1 = co96 - (1 : Int).toNat := ⟨_, rfl⟩; have hy97 : y178.length = y174.length - (1 : Int).toNat := (by rw [Ny178.out, List.length_drop]); rw [← Ny178.out] at hr97; rw [← hy97, ← hA97, ← hc97] at hcut97; replace hr97 : Kd.Q k42 42 w94 w.heap.size (fun _ => True) (.slice A97 y178.length c97) y178 := (by rw [hA97, hc97, hy97]; exact hr97); have HE97 : Aside0 ((Value.slice A97 y178.length c97).ownBlock = (.slice (some ad177) y174.length co96 : Value).ownBlock) := ⟨by rw [hA97]; split <;> (cases ((some ad177) : Option Addr) <;> rfl)⟩; clear hy97 hi097 hsz97 HO176 hA97 hc97; have HO180 := Aside0.mk hr97; clear hr97; replace q97 := eq_true q97; have hnb98 := NB147_153.out; have hnc98 := NB153_147.out; have hcz99_0 : w94.cell? ⟨gb147, 0, none⟩ = some (.int .i64 0) := (Z4l BK147.out 0).trans rfl; have hcz99_1 : w94.cell? ⟨gb147, 1, none⟩ = some (.slice none 0 0) := (Z4l BK147.out 1).trans rfl; have hfz99_0 := blk_frozen BK147.out 0; have hfz99_1 := blk_frozen BK147.out 1))
           refine bodyPost_ret (results_ct rfl _ _ gb147 24 #[.int .i64 ((rd_T42 y174 0).f0), .slice A97 y178.length c97] (0, 0) _ rfl (by (with_reducible repeat (first | refine Z4d ?_ _ | refine Z4e ?_ | refine Z4f ?_ _)); refine blk_put (cs := #[.int .i64 ((rd_T42 y174 0).f0), .slice none 0 0]) ?_ 1 _ rfl; (with_reducible repeat (first | refine Z4d ?_ _ | refine Z4e ?_ | refine Z4f ?_ _)); refine blk_put (cs := #[.int .i64 0, .slice none 0 0]) ?_ 0 _ rfl; (with_reducible repeat (first | refine Z4d ?_ _ | refine Z4e ?_ | refine Z4f ?_ _)); exact BK147.out) Try.underlying24 rfl (by kernel_rfl)) rfl ?_
           exact ⟨_, by first | rfl | (simp [errW_none, errW_some] <;> rfl) | (simp [*, errW_none, errW_some] <;> rfl), by (with_reducible repeat (first | apply Kd.Q_alloc | apply Kd.Q_drewN | apply Kd.Q_drew)); exact Kd.Q_mono (Kd.Q_far (p := ⟨gb147, 1, none⟩) (Kd.Q_far (p := ⟨gb147, 0, none⟩) (Kd.Q_types HO180.out BK147.out (by decide)) (fun _ hk => hk.2) (.int .i64 ((rd_T42 y174 0).f0))) (fun _ hk => hk.2) (.slice A97 y178.length c97)) (fun _ hk => trivial), by repeat (first | (with_reducible first | exact HB.out | apply Z4j | apply Z4h | apply Z4i | refine Z4k ?_ GE145.out | refine Z4k ?_ GE146.out | refine Z4k ?_ GE147.out | refine Z4k ?_ GE153.out) | exact HB.out)⟩
          ·
           rw [if_neg c86] at H
           exact absurd H (by simp)
         ·
          rw [if_neg c85] at H
          exact absurd H (by simp)
        ·
         rw [if_neg c84] at H
         have c84b0 : decide (8 < (y174.length : Int)) = false := decide_eq_false c84
         have c84b1 : decide (8 < y174.length) = false := decide_eq_false (by omega)
         clear c84
         simp only [Option.some.injEq, Prod.mk.injEq] at H
         obtain ⟨rfl, rfl, rfl⟩ := H
         have hnb100 := NB145_146.out
         have hnc100 := NB146_145.out
         have hnb101 := NB145_147.out
         have hnc101 := NB147_145.out
         have hnb102 := NB145_153.out
         have hnc102 := NB153_145.out
         have hcz103_0 : wr.cell? ⟨gb145, 0, none⟩ = some (.int .i64 a0_0) := (Z4l BK145.out 0).trans rfl
         have hcz103_1 : wr.cell? ⟨gb145, 1, none⟩ = some (.slice A0_1 l0_1.length c0_1) := (Z4l BK145.out 1).trans rfl
         have hfz103_0 := blk_frozen BK145.out 0
         have hfz103_1 := blk_frozen BK145.out 1
         have hnb104 := NB146_147.out
         have hnc104 := NB147_146.out
         have hnb105 := NB146_153.out
         have hnc105 := NB153_146.out
         have hcz106_0 : wr.cell? ⟨gb146, 0, none⟩ = some (.int .i64 a2_0) := (Z4l BK146.out 0).trans rfl
         have hcz106_1 : wr.cell? ⟨gb146, 1, none⟩ = some (.int .i64 a2_1) := (Z4l BK146.out 1).trans rfl
         have hcz106_2 : wr.cell? ⟨gb146, 2, none⟩ = some (.string a2_2) := (Z4l BK146.out 2).trans rfl
         have hfz106_0 := blk_frozen BK146.out 0
         have hfz106_1 := blk_frozen BK146.out 1
         have hfz106_2 := blk_frozen BK146.out 2
         go_wp2_with (first | ((with_reducible refine gate_builtin (b := .append) (xs := #[.tmp 63, .tmp 67]) rfl ?_); at_builtin; refine Kd.Q_append k42 (w0 := w) w.heap.size rfl (.tmp 63) (.tmp 67) 22 42 (.agg #[(.int .i64 0), (.int .i64 0), (.int .i64 0), (.string ⟨#[]⟩)]) 40 rfl Try.underlying22 info42 rfl (by decide) (by omega) u11 x11_1 (⟨a1, (⟨a2_0, a2_1, a2_2⟩ : S27)⟩ : S42) [.int .i64 a1, .int .i64 a2_0, .int .i64 a2_1, .string a2_2] (fun _ => True) (fun _ => False) rfl rfl ?aP (fun _ hk => hk.elim) ?aF ?aO ?aB ?aS ?aL ?_; (case aP => exact k42_mkM _ _ _ (⟨a1, (⟨a2_0, a2_1, a2_2⟩ : S27)⟩ : S42)); (case aB => exact (by repeat (first | (with_reducible first | exact HB.out | apply Z4j | apply Z4h | apply Z4i | refine Z4k ?_ GE145.out | refine Z4k ?_ GE146.out | refine Z4k ?_ GE147.out | refine Z4k ?_ GE153.out) | exact HB.out))); (case aF => exact (fun _ _ => trivial)); (case aO => exact (by (with_reducible repeat (first | apply Kd.Q_alloc | apply Kd.Q_drewN | apply Kd.Q_drew)); exact HO_11.out)); (case aS => exact (below_size (by repeat (first | (with_reducible first | exact HB.out | apply Z4j | apply Z4h | apply Z4i | refine Z4k ?_ GE145.out | refine Z4k ?_ GE146.out | refine Z4k ?_ GE147.out | refine Z4k ?_ GE153.out) | exact HB.out)))); (case aL => have := LMc83.out; omega); intro v175 w107 ho hb hg hat; rw [← Ny174.out] at ho; have n0_ := Aside0.mk (blk_grown (g := gb145) (o := .cells #[.int .i64 a0_0, .slice A0_1 l0_1.length c0_1] 24 (0, 0)) (by (with_reducible repeat (first | refine Z4d ?_ _ | refine Z4e ?_ | refine Z4f ?_ _)); exact BK145.out) hg (Kd.Q_ne HO_11.out BK145.out (by decide))); have n1_ := Aside0.mk (blk_grown (g := gb146) (o := .cells #[.int .i64 a2_0, .int .i64 a2_1, .string a2_2] 27 (0, 0)) (by (with_reducible repeat (first | refine Z4d ?_ _ | refine Z4e ?_ | refine Z4f ?_ _)); exact BK146.out) hg (Kd.Q_ne HO_11.out BK146.out (by decide))); have n2_ := Aside0.mk (blk_grown (g := gb147) (o := .cells #[.int .i64 0, .slice none 0 0] 24 (0, 0)) (by (with_reducible repeat (first | refine Z4d ?_ _ | refine Z4e ?_ | refine Z4f ?_ _)); exact BK147.out) hg (Kd.Q_ne HO_11.out BK147.out (by decide))); have n3_ := Aside0.mk (blk_grown (g := gb153) (o := .cells #[.int .i64 t148, .int .i64 t149, .string t150] 27 (0, 0)) (by (with_reducible repeat (first | refine Z4d ?_ _ | refine Z4e ?_ | refine Z4f ?_ _)); exact BK153.out) hg (Kd.Q_ne HO_11.out BK153.out (by decide))); have n4_ := Aside0.mk (hb); have n5_ := Aside0.mk (ho); clear BK145; clear BK146; clear BK147; clear BK153; clear HB; clear HO_11; have BK145 := n0_; have BK146 := n1_; have BK147 := n2_; have BK153 := n3_; have HB := n4_; have HO176 := n5_; clear n0_ n1_ n2_ n3_ n4_ n5_; clear ho hb hg hat; have hcz108_0 : w107.cell? ⟨gb145, 0, none⟩ = some (.int .i64 a0_0) := (Z4l BK145.out 0).trans rfl; have hcz108_1 : w107.cell? ⟨gb145, 1, none⟩ = some (.slice A0_1 l0_1.length c0_1) := (Z4l BK145.out 1).trans rfl; have hfz108_0 := blk_frozen BK145.out 0; have hfz108_1 := blk_frozen BK145.out 1; obtain ⟨Ao109, co109, eo109, _⟩ := Kd.Q_slice HO176.out; subst eo109; have hnb110 := NB147_153.out; have hnc110 := NB153_147.out; have hcz111_0 : w107.cell? ⟨gb147, 0, none⟩ = some (.int .i64 0) := (Z4l BK147.out 0).trans rfl; have hcz111_1 : w107.cell? ⟨gb147, 1, none⟩ = some (.slice none 0 0) := (Z4l BK147.out 1).trans rfl; have hfz111_0 := blk_frozen BK147.out 0; have hfz111_1 := blk_frozen BK147.out 1))
         refine bodyPost_ret (results_ct rfl _ _ gb147 24 #[.int .i64 a0_0, .slice Ao109 y174.length co109] (0, 0) _ rfl (by (with_reducible repeat (first | refine Z4d ?_ _ | refine Z4e ?_ | refine Z4f ?_ _)); refine blk_put (cs := #[.int .i64 a0_0, .slice none 0 0]) ?_ 1 _ rfl; (with_reducible repeat (first | refine Z4d ?_ _ | refine Z4e ?_ | refine Z4f ?_ _)); refine blk_put (cs := #[.int .i64 0, .slice none 0 0]) ?_ 0 _ rfl; (with_reducible repeat (first | refine Z4d ?_ _ | refine Z4e ?_ | refine Z4f ?_ _)); exact BK147.out) Try.underlying24 rfl (by kernel_rfl)) rfl ?_
         exact ⟨_, by first | rfl | (simp [errW_none, errW_some] <;> rfl) | (simp [*, errW_none, errW_some] <;> rfl), by (with_reducible repeat (first | apply Kd.Q_alloc | apply Kd.Q_drewN | apply Kd.Q_drew)); exact Kd.Q_mono (Kd.Q_far (p := ⟨gb147, 1, none⟩) (Kd.Q_far (p := ⟨gb147, 0, none⟩) (Kd.Q_types HO176.out BK147.out (by decide)) (fun _ hk => hk.2) (.int .i64 a0_0)) (fun _ hk => hk.2) (.slice Ao109 y174.length co109)) (fun _ hk => trivial), by repeat (first | (with_reducible first | exact HB.out | apply Z4j | apply Z4h | apply Z4i | refine Z4k ?_ GE145.out | refine Z4k ?_ GE146.out | refine Z4k ?_ GE147.out | refine Z4k ?_ GE153.out) | exact HB.out)⟩
       ·
        rw [if_neg c83] at H
        exact absurd H (by simp)
 ·
  rw [if_neg c5] at H
  have c5b0 : (t152 == 0) = false := beq_eq_false_iff_ne.mpr c5
  have c5b1 : (t152 != 0) = true := bne_iff_ne.mpr c5
  simp only [Option.some.injEq, Prod.mk.injEq] at H
  obtain ⟨rfl, rfl, rfl⟩ := H
  go_enter Try.func13, Try.ntmps13
  go_wp2_with (first | ((with_reducible refine gate_dst (N := 3) rfl ?_); refine box_event ?hg (N := 3) ?hd (cs := #[.int .i64 a0_0, .slice A0_1 l0_1.length c0_1]) (t := 24) ?hr ?_; (case hd => rfl); (case hg => rfl); (case hr => first | (go_simp; done) | (go_simp; rfl)); intro gb145 hg w112 hbox hb; have n0_ := Aside0.mk (below_step (by repeat (first | (with_reducible first | exact HB.out | apply Z4j | apply Z4h | apply Z4i) | exact HB.out)) hb); have n1_ := Aside0.mk (hbox); have n2_ := Aside0.mk ((by rw [hg]; exact (below_size (by repeat (first | (with_reducible first | exact HB.out | apply Z4j | apply Z4h | apply Z4i) | exact HB.out))) : w.heap.size ≤ gb145)); have n3_ := Aside0.mk ((by rw [hg]; exact (below_size (by repeat (first | (with_reducible first | exact HB.out | apply Z4j | apply Z4h | apply Z4i) | exact HB.out))) : w.heap.size ≤ gb145)); clear HB; have HB := n0_; have BK145 := n1_; have GW145 := n2_; have GE145 := n3_; clear n0_ n1_ n2_ n3_; clear hb hbox hg) | ((with_reducible refine gate_dst (N := 5) rfl ?_); refine box_event ?hg (N := 5) ?hd (cs := #[.int .i64 a2_0, .int .i64 a2_1, .string a2_2]) (t := 27) ?hr ?_; (case hd => rfl); (case hg => rfl); (case hr => first | (go_simp; done) | (go_simp; rfl)); intro gb146 hg w113 hbox hb; have n0_ := Aside0.mk (blk_below (g := gb145) (o := .cells #[.int .i64 a0_0, .slice A0_1 l0_1.length c0_1] 24 (0, 0)) (by (with_reducible repeat (first | refine Z4d ?_ _ | refine Z4e ?_ | refine Z4f ?_ _)); exact BK145.out) hb); have n1_ := Aside0.mk (below_step (by repeat (first | (with_reducible first | exact HB.out | apply Z4j | apply Z4h | apply Z4i | refine Z4k ?_ GE145.out) | exact HB.out)) hb); have n2_ := Aside0.mk (hbox); have n3_ := Aside0.mk ((by rw [hg]; exact (below_size (by repeat (first | (with_reducible first | exact HB.out | apply Z4j | apply Z4h | apply Z4i | refine Z4k ?_ GE145.out) | exact HB.out))) : w.heap.size ≤ gb146)); have n4_ := Aside0.mk ((by rw [hg]; exact (below_size (by repeat (first | (with_reducible first | exact HB.out | apply Z4j | apply Z4h | apply Z4i | refine Z4k ?_ GE145.out) | exact HB.out))) : w.heap.size ≤ gb146)); have n5_ := Aside0.mk ((by rw [hg]; exact Nat.ne_of_lt (blk_lt (g := gb145) (o := .cells #[.int .i64 a0_0, .slice A0_1 l0_1.length c0_1] 24 (0, 0)) (by (with_reducible repeat (first | refine Z4d ?_ _ | refine Z4e ?_ | refine Z4f ?_ _)); exact BK145.out)) : gb145 ≠ gb146)); have n6_ := Aside0.mk ((by rw [hg]; exact Nat.ne_of_gt (blk_lt (g := gb145) (o := .cells #[.int .i64 a0_0, .slice A0_1 l0_1.length c0_1] 24 (0, 0)) (by (with_reducible repeat (first | refine Z4d ?_ _ | refine Z4e ?_ | refine Z4f ?_ _)); exact BK145.out)) : gb146 ≠ gb145)); clear BK145; clear HB; have BK145 := n0_; have HB := n1_; have BK146 := n2_; have GW146 := n3_; have GE146 := n4_; have NB145_146 := n5_; have NB146_145 := n6_; clear n0_ n1_ n2_ n3_ n4_ n5_ n6_; clear hb hbox hg) | ((with_reducible refine gate_dst (N := 6) rfl ?_); refine box_event ?hg (N := 6) ?hd (cs := #[.int .i64 0, .slice none 0 0]) (t := 24) ?hr ?_; (case hd => rfl); (case hg => rfl); (case hr => first | (go_simp; done) | (go_simp; rfl)); intro gb147 hg w114 hbox hb; have n0_ := Aside0.mk (blk_below (g := gb145) (o := .cells #[.int .i64 a0_0, .slice A0_1 l0_1.length c0_1] 24 (0, 0)) (by (with_reducible repeat (first | refine Z4d ?_ _ | refine Z4e ?_ | refine Z4f ?_ _)); exact BK145.out) hb); have n1_ := Aside0.mk (blk_below (g := gb146) (o := .cells #[.int .i64 a2_0, .int .i64 a2_1, .string a2_2] 27 (0, 0)) (by (with_reducible repeat (first | refine Z4d ?_ _ | refine Z4e ?_ | refine Z4f ?_ _)); exact BK146.out) hb); have n2_ := Aside0.mk (below_step (by repeat (first | (with_reducible first | exact HB.out | apply Z4j | apply Z4h | apply Z4i | refine Z4k ?_ GE145.out | refine Z4k ?_ GE146.out) | exact HB.out)) hb); have n3_ := Aside0.mk (hbox); have n4_ := Aside0.mk ((by rw [hg]; exact (below_size (by repeat (first | (with_reducible first | exact HB.out | apply Z4j | apply Z4h | apply Z4i | refine Z4k ?_ GE145.out | refine Z4k ?_ GE146.out) | exact HB.out))) : w.heap.size ≤ gb147)); have n5_ := Aside0.mk ((by rw [hg]; exact (below_size (by repeat (first | (with_reducible first | exact HB.out | apply Z4j | apply Z4h | apply Z4i | refine Z4k ?_ GE145.out | refine Z4k ?_ GE146.out) | exact HB.out))) : w.heap.size ≤ gb147)); have n6_ := Aside0.mk ((by rw [hg]; exact Nat.ne_of_lt (blk_lt (g := gb145) (o := .cells #[.int .i64 a0_0, .slice A0_1 l0_1.length c0_1] 24 (0, 0)) (by (with_reducible repeat (first | refine Z4d ?_ _ | refine Z4e ?_ | refine Z4f ?_ _)); exact BK145.out)) : gb145 ≠ gb147)); have n7_ := Aside0.mk ((by rw [hg]; exact Nat.ne_of_gt (blk_lt (g := gb145) (o := .cells #[.int .i64 a0_0, .slice A0_1 l0_1.length c0_1] 24 (0, 0)) (by (with_reducible repeat (first | refine Z4d ?_ _ | refine Z4e ?_ | refine Z4f ?_ _)); exact BK145.out)) : gb147 ≠ gb145)); have n8_ := Aside0.mk ((by rw [hg]; exact Nat.ne_of_lt (blk_lt (g := gb146) (o := .cells #[.int .i64 a2_0, .int .i64 a2_1, .string a2_2] 27 (0, 0)) (by (with_reducible repeat (first | refine Z4d ?_ _ | refine Z4e ?_ | refine Z4f ?_ _)); exact BK146.out)) : gb146 ≠ gb147)); have n9_ := Aside0.mk ((by rw [hg]; exact Nat.ne_of_gt (blk_lt (g := gb146) (o := .cells #[.int .i64 a2_0, .int .i64 a2_1, .string a2_2] 27 (0, 0)) (by (with_reducible repeat (first | refine Z4d ?_ _ | refine Z4e ?_ | refine Z4f ?_ _)); exact BK146.out)) : gb147 ≠ gb146)); clear BK145; clear BK146; clear HB; have BK145 := n0_; have BK146 := n1_; have HB := n2_; have BK147 := n3_; have GW147 := n4_; have GE147 := n5_; have NB145_147 := n6_; have NB147_145 := n7_; have NB146_147 := n8_; have NB147_146 := n9_; clear n0_ n1_ n2_ n3_ n4_ n5_ n6_ n7_ n8_ n9_; clear hb hbox hg; have hnb115 := NB145_146.out; have hnc115 := NB146_145.out; have hnb116 := NB145_147.out; have hnc116 := NB147_145.out; have hcz117_0 : w114.cell? ⟨gb145, 0, none⟩ = some (.int .i64 a0_0) := (Z4l BK145.out 0).trans rfl; have hcz117_1 : w114.cell? ⟨gb145, 1, none⟩ = some (.slice A0_1 l0_1.length c0_1) := (Z4l BK145.out 1).trans rfl; have hfz117_0 := blk_frozen BK145.out 0; have hfz117_1 := blk_frozen BK145.out 1) | ((with_reducible refine gate_callee (f := 11) rfl ?_); refine goesL_ (some 18) rfl rfl Try.func11 (by kernel_rfl) rfl #[.agg #[.int .i64 a0_0, .slice A0_1 l0_1.length c0_1], .int .i64 a1] rfl (by (try simp only [List.map_toArray, List.map_cons, List.map_nil]); first | done | rfl | (simp only [List.length_drop, List.length_take]; rfl)) ?_; (with_reducible refine (colloquyref17_Look.calls k a0_0 _ _ l0_1 a1 t148 t149 t150 t151 t152 _ ?side1 ?side2 A4.out).mono ?_); (case side1 => repeat (first | exact (Kd.C_below HR0_1.out HB.out) | (with_reducible refine Kd.C_alloc ?_ _) | (with_reducible refine Kd.C_drewN ?_ _) | (with_reducible refine Kd.C_drew ?_))); (case side2 => exact HC0_1.out); rintro e w118 ⟨rfl, hb⟩; refine ⟨_, rfl, ?_⟩; have n0_ := Aside0.mk (blk_below (g := gb145) (o := .cells #[.int .i64 a0_0, .slice A0_1 l0_1.length c0_1] 24 (0, 0)) (by (with_reducible repeat (first | refine Z4d ?_ _ | refine Z4e ?_ | refine Z4f ?_ _)); exact BK145.out) hb); have n1_ := Aside0.mk (blk_below (g := gb146) (o := .cells #[.int .i64 a2_0, .int .i64 a2_1, .string a2_2] 27 (0, 0)) (by (with_reducible repeat (first | refine Z4d ?_ _ | refine Z4e ?_ | refine Z4f ?_ _)); exact BK146.out) hb); have n2_ := Aside0.mk (blk_below (g := gb147) (o := .cells #[.int .i64 0, .slice none 0 0] 24 (0, 0)) (by (with_reducible repeat (first | refine Z4d ?_ _ | refine Z4e ?_ | refine Z4f ?_ _)); exact BK147.out) hb); have n3_ := Aside0.mk (below_step (by repeat (first | (with_reducible first | exact HB.out | apply Z4j | apply Z4h | apply Z4i | refine Z4k ?_ GE145.out | refine Z4k ?_ GE146.out | refine Z4k ?_ GE147.out) | exact HB.out)) hb); clear BK145; clear BK146; clear BK147; clear HB; have BK145 := n0_; have BK146 := n1_; have BK147 := n2_; have HB := n3_; clear n0_ n1_ n2_ n3_; (try clear hb); (try clear hb2); (try clear hk); (try clear hi)) | ((with_reducible refine gate_dst (N := 8) rfl ?_); refine box_event ?hg (N := 8) ?hd (cs := #[.int .i64 0, .int .i64 0, .string (⟨#[]⟩ : ByteArray)]) (t := 27) ?hr ?_; (case hd => rfl); (case hg => rfl); (case hr => first | (go_simp; done) | (go_simp; rfl)); intro gb153 hg w119 hbox hb; have n0_ := Aside0.mk (blk_below (g := gb145) (o := .cells #[.int .i64 a0_0, .slice A0_1 l0_1.length c0_1] 24 (0, 0)) (by (with_reducible repeat (first | refine Z4d ?_ _ | refine Z4e ?_ | refine Z4f ?_ _)); exact BK145.out) hb); have n1_ := Aside0.mk (blk_below (g := gb146) (o := .cells #[.int .i64 a2_0, .int .i64 a2_1, .string a2_2] 27 (0, 0)) (by (with_reducible repeat (first | refine Z4d ?_ _ | refine Z4e ?_ | refine Z4f ?_ _)); exact BK146.out) hb); have n2_ := Aside0.mk (blk_below (g := gb147) (o := .cells #[.int .i64 0, .slice none 0 0] 24 (0, 0)) (by (with_reducible repeat (first | refine Z4d ?_ _ | refine Z4e ?_ | refine Z4f ?_ _)); exact BK147.out) hb); have n3_ := Aside0.mk (below_step (by repeat (first | (with_reducible first | exact HB.out | apply Z4j | apply Z4h | apply Z4i | refine Z4k ?_ GE145.out | refine Z4k ?_ GE146.out | refine Z4k ?_ GE147.out) | exact HB.out)) hb); have n4_ := Aside0.mk (hbox); have n5_ := Aside0.mk ((by rw [hg]; exact (below_size (by repeat (first | (with_reducible first | exact HB.out | apply Z4j | apply Z4h | apply Z4i | refine Z4k ?_ GE145.out | refine Z4k ?_ GE146.out | refine Z4k ?_ GE147.out) | exact HB.out))) : w.heap.size ≤ gb153)); have n6_ := Aside0.mk ((by rw [hg]; exact (below_size (by repeat (first | (with_reducible first | exact HB.out | apply Z4j | apply Z4h | apply Z4i | refine Z4k ?_ GE145.out | refine Z4k ?_ GE146.out | refine Z4k ?_ GE147.out) | exact HB.out))) : w.heap.size ≤ gb153)); have n7_ := Aside0.mk ((by rw [hg]; exact Nat.ne_of_lt (blk_lt (g := gb145) (o := .cells #[.int .i64 a0_0, .slice A0_1 l0_1.length c0_1] 24 (0, 0)) (by (with_reducible repeat (first | refine Z4d ?_ _ | refine Z4e ?_ | refine Z4f ?_ _)); exact BK145.out)) : gb145 ≠ gb153)); have n8_ := Aside0.mk ((by rw [hg]; exact Nat.ne_of_gt (blk_lt (g := gb145) (o := .cells #[.int .i64 a0_0, .slice A0_1 l0_1.length c0_1] 24 (0, 0)) (by (with_reducible repeat (first | refine Z4d ?_ _ | refine Z4e ?_ | refine Z4f ?_ _)); exact BK145.out)) : gb153 ≠ gb145)); have n9_ := Aside0.mk ((by rw [hg]; exact Nat.ne_of_lt (blk_lt (g := gb146) (o := .cells #[.int .i64 a2_0, .int .i64 a2_1, .string a2_2] 27 (0, 0)) (by (with_reducible repeat (first | refine Z4d ?_ _ | refine Z4e ?_ | refine Z4f ?_ _)); exact BK146.out)) : gb146 ≠ gb153)); have n10_ := Aside0.mk ((by rw [hg]; exact Nat.ne_of_gt (blk_lt (g := gb146) (o := .cells #[.int .i64 a2_0, .int .i64 a2_1, .string a2_2] 27 (0, 0)) (by (with_reducible repeat (first | refine Z4d ?_ _ | refine Z4e ?_ | refine Z4f ?_ _)); exact BK146.out)) : gb153 ≠ gb146)); have n11_ := Aside0.mk ((by rw [hg]; exact Nat.ne_of_lt (blk_lt (g := gb147) (o := .cells #[.int .i64 0, .slice none 0 0] 24 (0, 0)) (by (with_reducible repeat (first | refine Z4d ?_ _ | refine Z4e ?_ | refine Z4f ?_ _)); exact BK147.out)) : gb147 ≠ gb153)); have n12_ := Aside0.mk ((by rw [hg]; exact Nat.ne_of_gt (blk_lt (g := gb147) (o := .cells #[.int .i64 0, .slice none 0 0] 24 (0, 0)) (by (with_reducible repeat (first | refine Z4d ?_ _ | refine Z4e ?_ | refine Z4f ?_ _)); exact BK147.out)) : gb153 ≠ gb147)); clear BK145; clear BK146; clear BK147; clear HB; have BK145 := n0_; have BK146 := n1_; have BK147 := n2_; have HB := n3_; have BK153 := n4_; have GW153 := n5_; have GE153 := n6_; have NB145_153 := n7_; have NB153_145 := n8_; have NB146_153 := n9_; have NB153_146 := n10_; have NB147_153 := n11_; have NB153_147 := n12_; clear n0_ n1_ n2_ n3_ n4_ n5_ n6_ n7_ n8_ n9_ n10_ n11_ n12_; clear hb hbox hg; have hnb120 := NB153_145.out; have hnc120 := NB145_153.out; have hnb121 := NB153_146.out; have hnc121 := NB146_153.out; have hnb122 := NB153_147.out; have hnc122 := NB147_153.out; have hcz123_0 : w119.cell? ⟨gb153, 0, none⟩ = some (.int .i64 0) := (Z4l BK153.out 0).trans rfl; have hcz123_1 : w119.cell? ⟨gb153, 1, none⟩ = some (.int .i64 0) := (Z4l BK153.out 1).trans rfl; have hcz123_2 : w119.cell? ⟨gb153, 2, none⟩ = some (.string (⟨#[]⟩ : ByteArray)) := (Z4l BK153.out 2).trans rfl; have hfz123_0 := blk_frozen BK153.out 0; have hfz123_1 := blk_frozen BK153.out 1; have hfz123_2 := blk_frozen BK153.out 2; have hnb124 := NB147_146.out; have hnc124 := NB146_147.out; have hcz125_0 : w119.cell? ⟨gb147, 0, none⟩ = some (.int .i64 0) := (Z4l BK147.out 0).trans rfl; have hcz125_1 : w119.cell? ⟨gb147, 1, none⟩ = some (.slice none 0 0) := (Z4l BK147.out 1).trans rfl; have hfz125_0 := blk_frozen BK147.out 0; have hfz125_1 := blk_frozen BK147.out 1))
  refine bodyPost_ret (results_ct rfl _ _ gb147 24 #[.int .i64 0, .slice none 0 0] (0, 0) _ rfl (by (with_reducible repeat (first | refine Z4d ?_ _ | refine Z4e ?_ | refine Z4f ?_ _)); refine blk_put (cs := #[.int .i64 0, .slice none 0 0]) ?_ 1 _ rfl; (with_reducible repeat (first | refine Z4d ?_ _ | refine Z4e ?_ | refine Z4f ?_ _)); refine blk_put (cs := #[.int .i64 0, .slice none 0 0]) ?_ 0 _ rfl; (with_reducible repeat (first | refine Z4d ?_ _ | refine Z4e ?_ | refine Z4f ?_ _)); refine blk_far ?_ NB147_153.out _; (with_reducible repeat (first | refine Z4d ?_ _ | refine Z4e ?_ | refine Z4f ?_ _)); refine blk_far ?_ NB147_153.out _; (with_reducible repeat (first | refine Z4d ?_ _ | refine Z4e ?_ | refine Z4f ?_ _)); refine blk_far ?_ NB147_153.out _; (with_reducible repeat (first | refine Z4d ?_ _ | refine Z4e ?_ | refine Z4f ?_ _)); exact BK147.out) Try.underlying24 rfl (by kernel_rfl)) rfl ?_
  exact ⟨_, by first | rfl | (simp [errW_none, errW_some] <;> rfl) | (simp [*, errW_none, errW_some] <;> rfl), Kd.Q_of_R (by first | exact Kd.R_nil _ _ _ _ _ | exact Kd.N_nil _ _ _ _ _ | exact Kd.V_nil _ _ _ _ _ | exact Kd.Q_nil _ _ _ _ _ | exact Kd.S_nil _ _ _ _ _), by repeat (first | (with_reducible first | exact HB.out | apply Z4j | apply Z4h | apply Z4i | refine Z4k ?_ GE145.out | refine Z4k ?_ GE146.out | refine Z4k ?_ GE147.out | refine Z4k ?_ GE153.out) | exact HB.out)⟩

end Go.Proofs.Ytipmodlmmadfbaa.PWindowDoes
