-- Printed by a program of this session (xprint.py), which runs the kit's print and takes some contracts from texts of this session.
import Derived.Test.YtipmodlmmadfbaaPWindowDoesx0
import Derived.Test.YtipmodlmmadfbaaPWindowDoesx2
namespace Go.Proofs.Ytipmodlmmadfbaa.PWindowDoes
open Go.RowKit Go.Proofs.YtipmodlmmadfbaaW.PrintWords Go.Proofs.YtipmodlmmadfbaaW.PrintLast Go.Proofs.YtipmodlmmadfbaaW.PrintMore
abbrev Z3d := @blk_drewN
abbrev Z3e := @blk_drew
abbrev Z3f := @blk_alloc
abbrev Z3g := @World.block_lt_of_cell?
abbrev Z3h := @pw_below_drewN
abbrev Z3i := @below_drew1
abbrev Z3j := @below_alloc
abbrev Z3k := @below_set
abbrev Z3l := @blk_cell
attribute [local go_sem] max2_int min2_int max_two min_two max_three min_three max_four min_four   -- for this text's walks alone
set_option linter.unusedVariables false
set_option linter.unusedSimpArgs false

/-! ### colloquylaw17_awake: function 8 -/
mutual
def colloquylaw17_awake.l0 : Nat → Int → Int → List (S42) → Option (Bool)
 | 0, _, _, _ => none
 | k + 1, x2, x111000, x111001 => if x2 < 10 then (if x2 = 0 then (colloquylaw17_awake.j1 k x2 3 x111000 x111001) else (colloquylaw17_awake.j1 k x2 (wrap64 (x2 + 2)) x111000 x111001)) else ((window_Look.f k x111000 x111001 3).bind fun bt111 => ((window_Look.f k x111000 x111001 4).bind fun bt117 => (if bt111.2.2.2.2 = 9 then (if bt117.2.2.2.2 = 0 then (if bt117.2.2.2.1 = true then (if bt117.2.1 = 4 then (some (x111000 == 3)) else (some false)) else (some false)) else (some false)) else (some false))))
def colloquylaw17_awake.j1 : Nat → Int → Int → Int → List (S42) → Option (Bool)
 | 0, _, _, _, _ => none
 | k + 1, x2, x3, x111000, x111001 => if x2 = 1 then ((window_Put.f k x111000 x111001 1 0 1 (⟨#[]⟩ : ByteArray)).bind fun bt123 => (if bt123.2.2 = 0 then (colloquylaw17_awake.l0 k (wrap64 (x2 + 1)) bt123.1 bt123.2.1) else (some false))) else ((window_Put.f k x111000 x111001 x3 0 x3 (⟨#[]⟩ : ByteArray)).bind fun bt129 => (if bt129.2.2 = 0 then (colloquylaw17_awake.l0 k (wrap64 (x2 + 1)) bt129.1 bt129.2.1) else (some false)))
end
def colloquylaw17_awake.f (k : Nat)  : Option (Bool) := colloquylaw17_awake.l0 k 0 0 ([] : List (S42))
theorem colloquylaw17_awake.mono_l : ∀ k, (∀ y0 y1 y2, LeO (colloquylaw17_awake.l0 k y0 y1 y2) (colloquylaw17_awake.l0 (k + 1) y0 y1 y2)) ∧ (∀ y0 y1 y2 y3, LeO (colloquylaw17_awake.j1 k y0 y1 y2 y3) (colloquylaw17_awake.j1 (k + 1) y0 y1 y2 y3))
 | 0 => ⟨fun _ _ _ r h => by simp [colloquylaw17_awake.l0] at h, fun _ _ _ _ r h => by simp [colloquylaw17_awake.j1] at h⟩
 | k + 1 => by
  obtain ⟨ih0, ih1⟩ := colloquylaw17_awake.mono_l k
  refine ⟨?_, ?_⟩
  ·
   intro y0 y1 y2
   unfold colloquylaw17_awake.l0
   repeat' first
   | (with_reducible exact ih0 _ _ _)
   | (with_reducible exact ih1 _ _ _ _)
   | (with_reducible exact window_Look.mono _ _ _ _)
   | (with_reducible exact window_Put.mono _ _ _ _ _ _ _)
   | (with_reducible exact LeO.refl _)
   | (with_reducible exact LeO.none _)
   | (with_reducible refine LeO.ite ?_ ?_)
   | (with_reducible refine LeO.bind ?_ (fun _ => ?_))
   | exact ih0 _ _ _
   | exact ih1 _ _ _ _
   | exact window_Look.mono _ _ _ _
   | exact window_Put.mono _ _ _ _ _ _ _
   | exact LeO.none _
   | refine LeO.ite ?_ ?_
   | refine LeO.bind ?_ (fun _ => ?_)
  ·
   intro y0 y1 y2 y3
   unfold colloquylaw17_awake.j1
   repeat' first
   | (with_reducible exact ih0 _ _ _)
   | (with_reducible exact ih1 _ _ _ _)
   | (with_reducible exact window_Look.mono _ _ _ _)
   | (with_reducible exact window_Put.mono _ _ _ _ _ _ _)
   | (with_reducible exact LeO.refl _)
   | (with_reducible exact LeO.none _)
   | (with_reducible refine LeO.ite ?_ ?_)
   | (with_reducible refine LeO.bind ?_ (fun _ => ?_))
   | exact ih0 _ _ _
   | exact ih1 _ _ _ _
   | exact window_Look.mono _ _ _ _
   | exact window_Put.mono _ _ _ _ _ _ _
   | exact LeO.none _
   | refine LeO.ite ?_ ?_
   | refine LeO.bind ?_ (fun _ => ?_)
theorem colloquylaw17_awake.mono : ∀ k, LeO (colloquylaw17_awake.f k ) (colloquylaw17_awake.f (k + 1) ) := by
 intro  k
 obtain ⟨ih0, ih1⟩ := colloquylaw17_awake.mono_l k
 unfold colloquylaw17_awake.f
 repeat' first
  | (with_reducible exact ih0 _ _ _)
  | (with_reducible exact ih1 _ _ _ _)
  | (with_reducible exact window_Look.mono _ _ _ _)
  | (with_reducible exact window_Put.mono _ _ _ _ _ _ _)
  | (with_reducible exact LeO.refl _)
  | (with_reducible exact LeO.none _)
  | (with_reducible refine LeO.ite ?_ ?_)
  | (with_reducible refine LeO.bind ?_ (fun _ => ?_))
  | exact ih0 _ _ _
  | exact ih1 _ _ _ _
  | exact window_Look.mono _ _ _ _
  | exact window_Put.mono _ _ _ _ _ _ _
  | exact LeO.none _
  | refine LeO.ite ?_ ?_
  | refine LeO.bind ?_ (fun _ => ?_)
set_option maxHeartbeats 8000000 in
set_option maxRecDepth 100000 in
theorem colloquylaw17_awake.calls (k : Nat)  (r : Bool) (w : World) (h : colloquylaw17_awake.f k  = some r) :
 Calls Try.prog 8 #[] w fun e w' => e = .returned (.bool r) ∧ Below w.heap.size w w' := by
 have hu24 := Try.underlying24
 have hu27 := Try.underlying27
 have HB := Aside0.mk (Below.refl w.heap.size w)
 have H : (colloquylaw17_awake.l0 k 0 0 ([] : List (S42))) = some r := h
 clear h
 have H' := Aside0.mk H
 clear H
 go_enter Try.func8, Try.ntmps8
 go_wp2_with (first | ((with_reducible refine gate_dst (N := 1) rfl ?_); refine box_event ?hg (N := 1) ?hd (cs := #[.int .i64 0, .slice none 0 0]) (t := 24) ?hr ?_; (case hd => rfl); (case hg => rfl); (case hr => first | (go_simp; done) | (go_simp; rfl)); intro gb110 hg w1 hbox hb; have n0_ := Aside0.mk (below_step (by repeat (first | (with_reducible first | exact HB.out | apply Z3j | apply Z3h | apply Z3i) | exact HB.out)) hb); have n1_ := Aside0.mk (hbox); have n2_ := Aside0.mk ((by rw [hg]; exact (below_size (by repeat (first | (with_reducible first | exact HB.out | apply Z3j | apply Z3h | apply Z3i) | exact HB.out))) : w.heap.size ≤ gb110)); have n3_ := Aside0.mk ((by rw [hg]; exact (below_size (by repeat (first | (with_reducible first | exact HB.out | apply Z3j | apply Z3h | apply Z3i) | exact HB.out))) : w.heap.size ≤ gb110)); clear HB; have HB := n0_; have BK110 := n1_; have GW110 := n2_; have GE110 := n3_; clear n0_ n1_ n2_ n3_; clear hb hbox hg; have hcz2_0 : w1.cell? ⟨gb110, 0, none⟩ = some (.int .i64 0) := (Z3l BK110.out 0).trans rfl; have hcz2_1 : w1.cell? ⟨gb110, 1, none⟩ = some (.slice none 0 0) := (Z3l BK110.out 1).trans rfl; have hfz2_0 := blk_frozen BK110.out 0; have hfz2_1 := blk_frozen BK110.out 1))
 go_loopg [2] k (fun kq v2 w' => ∃ (x2_1 : Int) (x111000_1 : Int) (x111001_1 : List (S42)) (u111001 : Value), v2 = .int .i64 x2_1 ∧ Aside0 (colloquylaw17_awake.l0 kq x2_1 x111000_1 x111001_1 = some r) ∧ Aside0 (kq ≤ k) ∧ Aside0 (Kd.V k42 42 w' w.heap.size (fun k_ => k_ ≠ gb110) u111001 x111001_1) ∧ Aside0 (w'.heap[gb110]? = some (.cells #[.int .i64 x111000_1, u111001] 24 (0, 0))) ∧ Aside0 (Below w.heap.size w w'))
 case atStart => exact ⟨(0), (0), (([] : List (S42))), (.slice none 0 0), (by first | rfl | (simp; done) | (simp [*]; done)), H', ⟨Nat.le_refl _⟩, ⟨by first | exact Kd.V_nil _ _ _ _ _ | exact Kd.R_V (by first | exact Kd.R_nil _ _ _ _ _ | exact Kd.N_nil _ _ _ _ _ | exact Kd.V_nil _ _ _ _ _ | exact Kd.Q_nil _ _ _ _ _ | exact Kd.S_nil _ _ _ _ _)⟩, ⟨by (with_reducible repeat (first | refine Z3d ?_ _ | refine Z3e ?_ | refine Z3f ?_ _)); refine blk_put (cs := #[.int .i64 0, .slice none 0 0]) ?_ 1 _ rfl; (with_reducible repeat (first | refine Z3d ?_ _ | refine Z3e ?_ | refine Z3f ?_ _)); refine blk_put (cs := #[.int .i64 0, .slice none 0 0]) ?_ 0 _ rfl; (with_reducible repeat (first | refine Z3d ?_ _ | refine Z3e ?_ | refine Z3f ?_ _)); exact BK110.out⟩, ⟨by repeat (first | (with_reducible first | exact HB.out | apply Z3j | apply Z3h | apply Z3i | refine Z3k ?_ GE110.out) | exact HB.out)⟩⟩
 case round =>
  clear H'
  try clear p2
  try clear hcz2_0
  try clear hcz2_1
  try clear hfz2_0
  try clear hfz2_1
  obtain ⟨x2_1, x111000_1, x111001_1, u111001, rfl, HA, HK1, HO_111001, BK110, HB⟩ := hrel
  cases gk with
  | zero => exact absurd HA.out (by simp [colloquylaw17_awake.l0])
  | succ k1 =>
   have H := HA.out
   clear HA
   simp only [colloquylaw17_awake.l0] at H
   by_cases c3 : x2_1 < 10
   ·
    rw [if_pos c3] at H
    have c3b0 : decide (x2_1 < 10) = true := decide_eq_true c3
    clear c3
    have HC4 := Aside0.mk H
    clear H
    go_upto_if 20 with (fail)
    go_cut [3] (fun v3 wc => ∃ (kq : Nat) (x3_3 : Int), v3 = .int .i64 x3_3 ∧ Aside0 (colloquylaw17_awake.j1 kq x2_1 x3_3 x111000_1 x111001_1 = some r) ∧ Aside0 (kq ≤ k1) ∧ Aside0 (Kd.V k42 42 wc w.heap.size (fun k_ => k_ ≠ gb110) u111001 x111001_1) ∧ Aside0 (wc.heap[gb110]? = some (.cells #[.int .i64 x111000_1, u111001] 24 (0, 0))) ∧ Aside0 (Below w.heap.size w wc))
    case first =>
     have H := HC4.out
     clear HC4
     by_cases c5 : x2_1 = 0
     ·
      rw [if_pos c5] at H
      have c5b0 : (x2_1 == 0) = true := beq_iff_eq.mpr c5
      have c5b1 : (x2_1 != 0) = false := bne_eq_false_iff_eq.mpr c5
      clear c5
      (first | rw [c5b0] | (simp only [i64_w, i32_w]; rw [c5b0]) | skip)
      have H' := Aside0.mk H
      clear H
      go_wp2
      go_meet
      case rel => exact ⟨_, (3), (by first | rfl | (simp; done) | (simp [*]; done)), H', ⟨by have := HK1.out; first | omega | exact Nat.le_refl _⟩, ⟨by (with_reducible repeat (first | apply Kd.V_alloc | apply Kd.V_drewN | apply Kd.V_drew)); exact HO_111001.out⟩, ⟨by (with_reducible repeat (first | refine Z3d ?_ _ | refine Z3e ?_ | refine Z3f ?_ _)); exact BK110.out⟩, ⟨by repeat (first | (with_reducible first | exact HB.out | apply Z3j | apply Z3h | apply Z3i | refine Z3k ?_ GE110.out) | exact HB.out)⟩⟩
     ·
      rw [if_neg c5] at H
      have c5b0 : (x2_1 == 0) = false := beq_eq_false_iff_ne.mpr c5
      have c5b1 : (x2_1 != 0) = true := bne_iff_ne.mpr c5
      (first | rw [c5b0] | (simp only [i64_w, i32_w]; rw [c5b0]) | skip)
      have H' := Aside0.mk H
      clear H
      go_wp2
      go_meet
      case rel => exact ⟨_, (wrap64 (x2_1 + 2)), (by first | rfl | (simp; done) | (simp [*]; done)), H', ⟨by have := HK1.out; first | omega | exact Nat.le_refl _⟩, ⟨by (with_reducible repeat (first | apply Kd.V_alloc | apply Kd.V_drewN | apply Kd.V_drew)); exact HO_111001.out⟩, ⟨by (with_reducible repeat (first | refine Z3d ?_ _ | refine Z3e ?_ | refine Z3f ?_ _)); exact BK110.out⟩, ⟨by repeat (first | (with_reducible first | exact HB.out | apply Z3j | apply Z3h | apply Z3i | refine Z3k ?_ GE110.out) | exact HB.out)⟩⟩
    case rest =>
     clear HC4
     try clear p2
     try clear c3
     try clear c3b0
     try clear c5
     try clear c5b0
     try clear c5b1
     try clear hcz2_0
     try clear hcz2_1
     try clear hfz2_0
     try clear hfz2_1
     try clear p2
     obtain ⟨kq, x3_3, rfl, HA, HJ3, HO_111001, BK110, HB⟩ := hcut
     cases kq with
     | zero => exact absurd HA.out (by simp [colloquylaw17_awake.j1])
     | succ kj3 =>
      have H := HA.out
      clear HA
      simp only [colloquylaw17_awake.j1] at H
      by_cases c6 : x2_1 = 1
      ·
       rw [if_pos c6] at H
       have c6b0 : (x2_1 == 1) = true := beq_iff_eq.mpr c6
       have c6b1 : (x2_1 != 1) = false := bne_eq_false_iff_eq.mpr c6
       clear c6
       replace H := Option.bind_eq_some_iff.mp H
       obtain ⟨⟨t123, t124, t127⟩, A70, H⟩ := H
       replace H : (if t127 = 0 then (colloquylaw17_awake.l0 kj3 (wrap64 (x2_1 + 1)) t123 t124) else (some false)) = some r := H
       have A7 := Aside0.mk A70
       clear A70
       by_cases c8 : t127 = 0
       ·
        rw [if_pos c8] at H
        have c8b0 : (t127 == 0) = true := beq_iff_eq.mpr c8
        have c8b1 : (t127 != 0) = false := bne_eq_false_iff_eq.mpr c8
        clear c8
        have H' := Aside0.mk H
        clear H
        have hcz9_0 : wc.cell? ⟨gb110, 0, none⟩ = some (.int .i64 x111000_1) := (Z3l BK110.out 0).trans rfl
        have hcz9_1 : wc.cell? ⟨gb110, 1, none⟩ = some (u111001) := (Z3l BK110.out 1).trans rfl
        have hfz9_0 := blk_frozen BK110.out 0
        have hfz9_1 := blk_frozen BK110.out 1
        obtain ⟨Ao10, co10, eo10⟩ := Kd.V_slice HO_111001.out
        subst eo10
        go_wp2_with (first | ((with_reducible refine gate_callee (f := 12) rfl ?_); refine goesL_ (some 28) rfl rfl Try.func12 (by kernel_rfl) rfl #[.agg #[.int .i64 x111000_1, .slice Ao10 x111001_1.length co10], .int .i64 1, .agg #[.int .i64 0, .int .i64 1, .string (⟨#[]⟩ : ByteArray)]] rfl (by (try simp only [List.map_toArray, List.map_cons, List.map_nil]); first | done | rfl | (simp only [List.length_drop, List.length_take]; rfl)) ?_; (with_reducible refine (window_Put.calls kj3 x111000_1 _ _ x111001_1 1 0 1 (⟨#[]⟩ : ByteArray) t123 t124 t127 _ ?side1 ?side2 A7.out).mono ?_); (case side1 => repeat (first | exact (Kd.V_reads' HO_111001.out).2.2 | (with_reducible refine Kd.C_alloc ?_ _) | (with_reducible refine Kd.C_drewN ?_ _) | (with_reducible refine Kd.C_drew ?_))); (case side2 => exact (Kd.V_reads' HO_111001.out).2.1); rintro e w11 ⟨v125, rfl, ho0, hb⟩; refine ⟨_, rfl, ?_⟩; have n0_ := Aside0.mk (Kd.V_below (by (with_reducible repeat (first | apply Kd.V_alloc | apply Kd.V_drewN | apply Kd.V_drew)); exact HO_111001.out) hb); have n1_ := Aside0.mk (Kd.V_lower (Kd.V_mono (ok' := fun k_ => k_ ≠ gb110) ho0 (fun k_ hk_ => (Kd.freshB (g := gb110) (o := .cells #[.int .i64 x111000_1, .slice Ao10 x111001_1.length co10] 24 (0, 0)) (by (with_reducible repeat (first | refine Z3d ?_ _ | refine Z3e ?_ | refine Z3f ?_ _)); exact BK110.out) k_ hk_))) (below_size (by repeat (first | (with_reducible first | exact HB.out | apply Z3j | apply Z3h | apply Z3i | refine Z3k ?_ GE110.out) | exact HB.out)))); have n2_ := Aside0.mk (blk_below (g := gb110) (o := .cells #[.int .i64 x111000_1, .slice Ao10 x111001_1.length co10] 24 (0, 0)) (by (with_reducible repeat (first | refine Z3d ?_ _ | refine Z3e ?_ | refine Z3f ?_ _)); exact BK110.out) hb); have n3_ := Aside0.mk (below_step (by repeat (first | (with_reducible first | exact HB.out | apply Z3j | apply Z3h | apply Z3i | refine Z3k ?_ GE110.out) | exact HB.out)) hb); clear HO_111001; clear BK110; clear HB; have HO_111001 := n0_; have HO126 := n1_; have BK110 := n2_; have HB := n3_; clear n0_ n1_ n2_ n3_; (try clear hb); (try clear hb2); (try clear hk); (try clear hi); (try clear ho0)) | ((with_reducible refine gate_dst (N := 4) rfl ?_); refine box_event ?hg (N := 4) ?hd (cs := #[.int .i64 0, .slice none 0 0]) (t := 24) ?hr ?_; (case hd => rfl); (case hg => rfl); (case hr => first | (go_simp; done) | (go_simp; rfl)); intro gb128 hg w12 hbox hb; have n0_ := Aside0.mk (Kd.V_below (Kd.V_elderB (by (with_reducible repeat (first | apply Kd.V_alloc | apply Kd.V_drewN | apply Kd.V_drew)); exact HO_111001.out) gb128 (Nat.le_of_eq hg.symm)) hb); have n1_ := Aside0.mk (Kd.V_below (Kd.V_elderB (by (with_reducible repeat (first | apply Kd.V_alloc | apply Kd.V_drewN | apply Kd.V_drew)); exact HO126.out) gb128 (Nat.le_of_eq hg.symm)) hb); have n2_ := Aside0.mk (blk_below (g := gb110) (o := .cells #[.int .i64 x111000_1, .slice Ao10 x111001_1.length co10] 24 (0, 0)) (by (with_reducible repeat (first | refine Z3d ?_ _ | refine Z3e ?_ | refine Z3f ?_ _)); exact BK110.out) hb); have n3_ := Aside0.mk (below_step (by repeat (first | (with_reducible first | exact HB.out | apply Z3j | apply Z3h | apply Z3i | refine Z3k ?_ GE110.out) | exact HB.out)) hb); have n4_ := Aside0.mk (hbox); have n5_ := Aside0.mk ((by rw [hg]; exact (below_size (by repeat (first | (with_reducible first | exact HB.out | apply Z3j | apply Z3h | apply Z3i | refine Z3k ?_ GE110.out) | exact HB.out))) : w.heap.size ≤ gb128)); have n6_ := Aside0.mk ((by rw [hg]; exact (below_size (by repeat (first | (with_reducible first | exact HB.out | apply Z3j | apply Z3h | apply Z3i | refine Z3k ?_ GE110.out) | exact HB.out))) : w.heap.size ≤ gb128)); have n7_ := Aside0.mk ((by rw [hg]; exact Nat.ne_of_lt (blk_lt (g := gb110) (o := .cells #[.int .i64 x111000_1, .slice Ao10 x111001_1.length co10] 24 (0, 0)) (by (with_reducible repeat (first | refine Z3d ?_ _ | refine Z3e ?_ | refine Z3f ?_ _)); exact BK110.out)) : gb110 ≠ gb128)); have n8_ := Aside0.mk ((by rw [hg]; exact Nat.ne_of_gt (blk_lt (g := gb110) (o := .cells #[.int .i64 x111000_1, .slice Ao10 x111001_1.length co10] 24 (0, 0)) (by (with_reducible repeat (first | refine Z3d ?_ _ | refine Z3e ?_ | refine Z3f ?_ _)); exact BK110.out)) : gb128 ≠ gb110)); clear HO_111001; clear HO126; clear BK110; clear HB; have HO_111001 := n0_; have HO126 := n1_; have BK110 := n2_; have HB := n3_; have BK128 := n4_; have GW128 := n5_; have GE128 := n6_; have NB110_128 := n7_; have NB128_110 := n8_; clear n0_ n1_ n2_ n3_ n4_ n5_ n6_ n7_ n8_; clear hb hbox hg; have hnb13 := NB128_110.out; have hnc13 := NB110_128.out; have hcz14_0 : w12.cell? ⟨gb128, 0, none⟩ = some (.int .i64 0) := (Z3l BK128.out 0).trans rfl; have hcz14_1 : w12.cell? ⟨gb128, 1, none⟩ = some (.slice none 0 0) := (Z3l BK128.out 1).trans rfl; have hfz14_0 := blk_frozen BK128.out 0; have hfz14_1 := blk_frozen BK128.out 1; obtain ⟨Ao15, co15, eo15⟩ := Kd.V_slice HO126.out; subst eo15; have hcz16_0 : w12.cell? ⟨gb110, 0, none⟩ = some (.int .i64 x111000_1) := (Z3l BK110.out 0).trans rfl; have hcz16_1 : w12.cell? ⟨gb110, 1, none⟩ = some (.slice Ao10 x111001_1.length co10) := (Z3l BK110.out 1).trans rfl; have hfz16_0 := blk_frozen BK110.out 0; have hfz16_1 := blk_frozen BK110.out 1))
        go_roundg kj3
        case measure => have := HK1.out; have := HJ3.out; omega
        case rel => exact ⟨(wrap64 (x2_1 + 1)), (t123), (t124), (.slice Ao15 t124.length co15), (by first | rfl | (simp; done) | (simp [*]; done)), H', ⟨by have := HK1.out; have := HJ3.out; omega⟩, ⟨by (with_reducible repeat (first | apply Kd.V_alloc | apply Kd.V_drewN | apply Kd.V_drew)); exact Kd.V_mono (Kd.V_far (p := ⟨gb110, 1, none⟩) (Kd.V_far (p := ⟨gb110, 0, none⟩) (Kd.V_far (p := ⟨gb128, 1, none⟩) (Kd.V_far (p := ⟨gb128, 0, none⟩) (Kd.V_mono (Kd.V_mono HO126.out (fun k_ hk => (⟨hk, hk.2⟩ : _ ∧ k_ ≠ gb128))) (fun k_ hk => (⟨hk, hk.1.1⟩ : _ ∧ k_ ≠ gb110))) (fun _ hk => hk.1.2) (.int .i64 t123)) (fun _ hk => hk.1.2) (.slice Ao15 t124.length co15)) (fun _ hk => hk.2) (.int .i64 t123)) (fun _ hk => hk.2) (.slice Ao15 t124.length co15)) (fun _ hk => hk.1.1.1)⟩, ⟨by (with_reducible repeat (first | refine Z3d ?_ _ | refine Z3e ?_ | refine Z3f ?_ _)); refine blk_put (cs := #[.int .i64 t123, .slice Ao10 x111001_1.length co10]) ?_ 1 _ rfl; (with_reducible repeat (first | refine Z3d ?_ _ | refine Z3e ?_ | refine Z3f ?_ _)); refine blk_put (cs := #[.int .i64 x111000_1, .slice Ao10 x111001_1.length co10]) ?_ 0 _ rfl; (with_reducible repeat (first | refine Z3d ?_ _ | refine Z3e ?_ | refine Z3f ?_ _)); refine blk_far ?_ NB110_128.out _; (with_reducible repeat (first | refine Z3d ?_ _ | refine Z3e ?_ | refine Z3f ?_ _)); refine blk_far ?_ NB110_128.out _; (with_reducible repeat (first | refine Z3d ?_ _ | refine Z3e ?_ | refine Z3f ?_ _)); exact BK110.out⟩, ⟨by repeat (first | (with_reducible first | exact HB.out | apply Z3j | apply Z3h | apply Z3i | refine Z3k ?_ GE110.out | refine Z3k ?_ GE128.out) | exact HB.out)⟩⟩
       ·
        rw [if_neg c8] at H
        have c8b0 : (t127 == 0) = false := beq_eq_false_iff_ne.mpr c8
        have c8b1 : (t127 != 0) = true := bne_iff_ne.mpr c8
        obtain rfl := Option.some.inj H
        have hcz17_0 : wc.cell? ⟨gb110, 0, none⟩ = some (.int .i64 x111000_1) := (Z3l BK110.out 0).trans rfl
        have hcz17_1 : wc.cell? ⟨gb110, 1, none⟩ = some (u111001) := (Z3l BK110.out 1).trans rfl
        have hfz17_0 := blk_frozen BK110.out 0
        have hfz17_1 := blk_frozen BK110.out 1
        obtain ⟨Ao18, co18, eo18⟩ := Kd.V_slice HO_111001.out
        subst eo18
        go_wp2_with (first | ((with_reducible refine gate_callee (f := 12) rfl ?_); refine goesL_ (some 28) rfl rfl Try.func12 (by kernel_rfl) rfl #[.agg #[.int .i64 x111000_1, .slice Ao18 x111001_1.length co18], .int .i64 1, .agg #[.int .i64 0, .int .i64 1, .string (⟨#[]⟩ : ByteArray)]] rfl (by (try simp only [List.map_toArray, List.map_cons, List.map_nil]); first | done | rfl | (simp only [List.length_drop, List.length_take]; rfl)) ?_; (with_reducible refine (window_Put.calls kj3 x111000_1 _ _ x111001_1 1 0 1 (⟨#[]⟩ : ByteArray) t123 t124 t127 _ ?side1 ?side2 A7.out).mono ?_); (case side1 => repeat (first | exact (Kd.V_reads' HO_111001.out).2.2 | (with_reducible refine Kd.C_alloc ?_ _) | (with_reducible refine Kd.C_drewN ?_ _) | (with_reducible refine Kd.C_drew ?_))); (case side2 => exact (Kd.V_reads' HO_111001.out).2.1); rintro e w19 ⟨v125, rfl, ho0, hb⟩; refine ⟨_, rfl, ?_⟩; have n0_ := Aside0.mk (Kd.V_below (by (with_reducible repeat (first | apply Kd.V_alloc | apply Kd.V_drewN | apply Kd.V_drew)); exact HO_111001.out) hb); have n1_ := Aside0.mk (Kd.V_lower (Kd.V_mono (ok' := fun k_ => k_ ≠ gb110) ho0 (fun k_ hk_ => (Kd.freshB (g := gb110) (o := .cells #[.int .i64 x111000_1, .slice Ao18 x111001_1.length co18] 24 (0, 0)) (by (with_reducible repeat (first | refine Z3d ?_ _ | refine Z3e ?_ | refine Z3f ?_ _)); exact BK110.out) k_ hk_))) (below_size (by repeat (first | (with_reducible first | exact HB.out | apply Z3j | apply Z3h | apply Z3i | refine Z3k ?_ GE110.out) | exact HB.out)))); have n2_ := Aside0.mk (blk_below (g := gb110) (o := .cells #[.int .i64 x111000_1, .slice Ao18 x111001_1.length co18] 24 (0, 0)) (by (with_reducible repeat (first | refine Z3d ?_ _ | refine Z3e ?_ | refine Z3f ?_ _)); exact BK110.out) hb); have n3_ := Aside0.mk (below_step (by repeat (first | (with_reducible first | exact HB.out | apply Z3j | apply Z3h | apply Z3i | refine Z3k ?_ GE110.out) | exact HB.out)) hb); clear HO_111001; clear BK110; clear HB; have HO_111001 := n0_; have HO126 := n1_; have BK110 := n2_; have HB := n3_; clear n0_ n1_ n2_ n3_; (try clear hb); (try clear hb2); (try clear hk); (try clear hi); (try clear ho0)) | ((with_reducible refine gate_dst (N := 4) rfl ?_); refine box_event ?hg (N := 4) ?hd (cs := #[.int .i64 0, .slice none 0 0]) (t := 24) ?hr ?_; (case hd => rfl); (case hg => rfl); (case hr => first | (go_simp; done) | (go_simp; rfl)); intro gb128 hg w20 hbox hb; have n0_ := Aside0.mk (Kd.V_below (Kd.V_elderB (by (with_reducible repeat (first | apply Kd.V_alloc | apply Kd.V_drewN | apply Kd.V_drew)); exact HO_111001.out) gb128 (Nat.le_of_eq hg.symm)) hb); have n1_ := Aside0.mk (Kd.V_below (Kd.V_elderB (by (with_reducible repeat (first | apply Kd.V_alloc | apply Kd.V_drewN | apply Kd.V_drew)); exact HO126.out) gb128 (Nat.le_of_eq hg.symm)) hb); have n2_ := Aside0.mk (blk_below (g := gb110) (o := .cells #[.int .i64 x111000_1, .slice Ao18 x111001_1.length co18] 24 (0, 0)) (by (with_reducible repeat (first | refine Z3d ?_ _ | refine Z3e ?_ | refine Z3f ?_ _)); exact BK110.out) hb); have n3_ := Aside0.mk (below_step (by repeat (first | (with_reducible first | exact HB.out | apply Z3j | apply Z3h | apply Z3i | refine Z3k ?_ GE110.out) | exact HB.out)) hb); have n4_ := Aside0.mk (hbox); have n5_ := Aside0.mk ((by rw [hg]; exact (below_size (by repeat (first | (with_reducible first | exact HB.out | apply Z3j | apply Z3h | apply Z3i | refine Z3k ?_ GE110.out) | exact HB.out))) : w.heap.size ≤ gb128)); have n6_ := Aside0.mk ((by rw [hg]; exact (below_size (by repeat (first | (with_reducible first | exact HB.out | apply Z3j | apply Z3h | apply Z3i | refine Z3k ?_ GE110.out) | exact HB.out))) : w.heap.size ≤ gb128)); have n7_ := Aside0.mk ((by rw [hg]; exact Nat.ne_of_lt (blk_lt (g := gb110) (o := .cells #[.int .i64 x111000_1, .slice Ao18 x111001_1.length co18] 24 (0, 0)) (by (with_reducible repeat (first | refine Z3d ?_ _ | refine Z3e ?_ | refine Z3f ?_ _)); exact BK110.out)) : gb110 ≠ gb128)); have n8_ := Aside0.mk ((by rw [hg]; exact Nat.ne_of_gt (blk_lt (g := gb110) (o := .cells #[.int .i64 x111000_1, .slice Ao18 x111001_1.length co18] 24 (0, 0)) (by (with_reducible repeat (first | refine Z3d ?_ _ | refine Z3e ?_ | refine Z3f ?_ _)); exact BK110.out)) : gb128 ≠ gb110)); clear HO_111001; clear HO126; clear BK110; clear HB; have HO_111001 := n0_; have HO126 := n1_; have BK110 := n2_; have HB := n3_; have BK128 := n4_; have GW128 := n5_; have GE128 := n6_; have NB110_128 := n7_; have NB128_110 := n8_; clear n0_ n1_ n2_ n3_ n4_ n5_ n6_ n7_ n8_; clear hb hbox hg; have hnb21 := NB128_110.out; have hnc21 := NB110_128.out; have hcz22_0 : w20.cell? ⟨gb128, 0, none⟩ = some (.int .i64 0) := (Z3l BK128.out 0).trans rfl; have hcz22_1 : w20.cell? ⟨gb128, 1, none⟩ = some (.slice none 0 0) := (Z3l BK128.out 1).trans rfl; have hfz22_0 := blk_frozen BK128.out 0; have hfz22_1 := blk_frozen BK128.out 1; obtain ⟨Ao23, co23, eo23⟩ := Kd.V_slice HO126.out; subst eo23))
        go_ret
        exact ⟨by first | rfl | (simp [errW_none, errW_some] <;> rfl) | (simp [*, errW_none, errW_some] <;> rfl), by repeat (first | (with_reducible first | exact HB.out | apply Z3j | apply Z3h | apply Z3i | refine Z3k ?_ GE110.out | refine Z3k ?_ GE128.out) | exact HB.out)⟩
      ·
       rw [if_neg c6] at H
       have c6b0 : (x2_1 == 1) = false := beq_eq_false_iff_ne.mpr c6
       have c6b1 : (x2_1 != 1) = true := bne_iff_ne.mpr c6
       replace H := Option.bind_eq_some_iff.mp H
       obtain ⟨⟨t129, t130, t133⟩, A240, H⟩ := H
       replace H : (if t133 = 0 then (colloquylaw17_awake.l0 kj3 (wrap64 (x2_1 + 1)) t129 t130) else (some false)) = some r := H
       have A24 := Aside0.mk A240
       clear A240
       by_cases c25 : t133 = 0
       ·
        rw [if_pos c25] at H
        have c25b0 : (t133 == 0) = true := beq_iff_eq.mpr c25
        have c25b1 : (t133 != 0) = false := bne_eq_false_iff_eq.mpr c25
        clear c25
        have H' := Aside0.mk H
        clear H
        have hcz26_0 : wc.cell? ⟨gb110, 0, none⟩ = some (.int .i64 x111000_1) := (Z3l BK110.out 0).trans rfl
        have hcz26_1 : wc.cell? ⟨gb110, 1, none⟩ = some (u111001) := (Z3l BK110.out 1).trans rfl
        have hfz26_0 := blk_frozen BK110.out 0
        have hfz26_1 := blk_frozen BK110.out 1
        obtain ⟨Ao27, co27, eo27⟩ := Kd.V_slice HO_111001.out
        subst eo27
        go_wp2_with (first | ((with_reducible refine gate_callee (f := 12) rfl ?_); refine goesL_ (some 28) rfl rfl Try.func12 (by kernel_rfl) rfl #[.agg #[.int .i64 x111000_1, .slice Ao27 x111001_1.length co27], .int .i64 x3_3, .agg #[.int .i64 0, .int .i64 x3_3, .string (⟨#[]⟩ : ByteArray)]] rfl (by (try simp only [List.map_toArray, List.map_cons, List.map_nil]); first | done | rfl | (simp only [List.length_drop, List.length_take]; rfl)) ?_; (with_reducible refine (window_Put.calls kj3 x111000_1 _ _ x111001_1 x3_3 0 x3_3 (⟨#[]⟩ : ByteArray) t129 t130 t133 _ ?side1 ?side2 A24.out).mono ?_); (case side1 => repeat (first | exact (Kd.V_reads' HO_111001.out).2.2 | (with_reducible refine Kd.C_alloc ?_ _) | (with_reducible refine Kd.C_drewN ?_ _) | (with_reducible refine Kd.C_drew ?_))); (case side2 => exact (Kd.V_reads' HO_111001.out).2.1); rintro e w28 ⟨v131, rfl, ho0, hb⟩; refine ⟨_, rfl, ?_⟩; have n0_ := Aside0.mk (Kd.V_below (by (with_reducible repeat (first | apply Kd.V_alloc | apply Kd.V_drewN | apply Kd.V_drew)); exact HO_111001.out) hb); have n1_ := Aside0.mk (Kd.V_lower (Kd.V_mono (ok' := fun k_ => k_ ≠ gb110) ho0 (fun k_ hk_ => (Kd.freshB (g := gb110) (o := .cells #[.int .i64 x111000_1, .slice Ao27 x111001_1.length co27] 24 (0, 0)) (by (with_reducible repeat (first | refine Z3d ?_ _ | refine Z3e ?_ | refine Z3f ?_ _)); exact BK110.out) k_ hk_))) (below_size (by repeat (first | (with_reducible first | exact HB.out | apply Z3j | apply Z3h | apply Z3i | refine Z3k ?_ GE110.out) | exact HB.out)))); have n2_ := Aside0.mk (blk_below (g := gb110) (o := .cells #[.int .i64 x111000_1, .slice Ao27 x111001_1.length co27] 24 (0, 0)) (by (with_reducible repeat (first | refine Z3d ?_ _ | refine Z3e ?_ | refine Z3f ?_ _)); exact BK110.out) hb); have n3_ := Aside0.mk (below_step (by repeat (first | (with_reducible first | exact HB.out | apply Z3j | apply Z3h | apply Z3i | refine Z3k ?_ GE110.out) | exact HB.out)) hb); clear HO_111001; clear BK110; clear HB; have HO_111001 := n0_; have HO132 := n1_; have BK110 := n2_; have HB := n3_; clear n0_ n1_ n2_ n3_; (try clear hb); (try clear hb2); (try clear hk); (try clear hi); (try clear ho0)) | ((with_reducible refine gate_dst (N := 4) rfl ?_); refine box_event ?hg (N := 4) ?hd (cs := #[.int .i64 0, .slice none 0 0]) (t := 24) ?hr ?_; (case hd => rfl); (case hg => rfl); (case hr => first | (go_simp; done) | (go_simp; rfl)); intro gb134 hg w29 hbox hb; have n0_ := Aside0.mk (Kd.V_below (Kd.V_elderB (by (with_reducible repeat (first | apply Kd.V_alloc | apply Kd.V_drewN | apply Kd.V_drew)); exact HO_111001.out) gb134 (Nat.le_of_eq hg.symm)) hb); have n1_ := Aside0.mk (Kd.V_below (Kd.V_elderB (by (with_reducible repeat (first | apply Kd.V_alloc | apply Kd.V_drewN | apply Kd.V_drew)); exact HO132.out) gb134 (Nat.le_of_eq hg.symm)) hb); have n2_ := Aside0.mk (blk_below (g := gb110) (o := .cells #[.int .i64 x111000_1, .slice Ao27 x111001_1.length co27] 24 (0, 0)) (by (with_reducible repeat (first | refine Z3d ?_ _ | refine Z3e ?_ | refine Z3f ?_ _)); exact BK110.out) hb); have n3_ := Aside0.mk (below_step (by repeat (first | (with_reducible first | exact HB.out | apply Z3j | apply Z3h | apply Z3i | refine Z3k ?_ GE110.out) | exact HB.out)) hb); have n4_ := Aside0.mk (hbox); have n5_ := Aside0.mk ((by rw [hg]; exact (below_size (by repeat (first | (with_reducible first | exact HB.out | apply Z3j | apply Z3h | apply Z3i | refine Z3k ?_ GE110.out) | exact HB.out))) : w.heap.size ≤ gb134)); have n6_ := Aside0.mk ((by rw [hg]; exact (below_size (by repeat (first | (with_reducible first | exact HB.out | apply Z3j | apply Z3h | apply Z3i | refine Z3k ?_ GE110.out) | exact HB.out))) : w.heap.size ≤ gb134)); have n7_ := Aside0.mk ((by rw [hg]; exact Nat.ne_of_lt (blk_lt (g := gb110) (o := .cells #[.int .i64 x111000_1, .slice Ao27 x111001_1.length co27] 24 (0, 0)) (by (with_reducible repeat (first | refine Z3d ?_ _ | refine Z3e ?_ | refine Z3f ?_ _)); exact BK110.out)) : gb110 ≠ gb134)); have n8_ := Aside0.mk ((by rw [hg]; exact Nat.ne_of_gt (blk_lt (g := gb110) (o := .cells #[.int .i64 x111000_1, .slice Ao27 x111001_1.length co27] 24 (0, 0)) (by (with_reducible repeat (first | refine Z3d ?_ _ | refine Z3e ?_ | refine Z3f ?_ _)); exact BK110.out)) : gb134 ≠ gb110)); clear HO_111001; clear HO132; clear BK110; clear HB; have HO_111001 := n0_; have HO132 := n1_; have BK110 := n2_; have HB := n3_; have BK134 := n4_; have GW134 := n5_; have GE134 := n6_; have NB110_134 := n7_; have NB134_110 := n8_; clear n0_ n1_ n2_ n3_ n4_ n5_ n6_ n7_ n8_; clear hb hbox hg; have hnb30 := NB134_110.out; have hnc30 := NB110_134.out; have hcz31_0 : w29.cell? ⟨gb134, 0, none⟩ = some (.int .i64 0) := (Z3l BK134.out 0).trans rfl; have hcz31_1 : w29.cell? ⟨gb134, 1, none⟩ = some (.slice none 0 0) := (Z3l BK134.out 1).trans rfl; have hfz31_0 := blk_frozen BK134.out 0; have hfz31_1 := blk_frozen BK134.out 1; obtain ⟨Ao32, co32, eo32⟩ := Kd.V_slice HO132.out; subst eo32; have hcz33_0 : w29.cell? ⟨gb110, 0, none⟩ = some (.int .i64 x111000_1) := (Z3l BK110.out 0).trans rfl; have hcz33_1 : w29.cell? ⟨gb110, 1, none⟩ = some (.slice Ao27 x111001_1.length co27) := (Z3l BK110.out 1).trans rfl; have hfz33_0 := blk_frozen BK110.out 0; have hfz33_1 := blk_frozen BK110.out 1))
        go_roundg kj3
        case measure => have := HK1.out; have := HJ3.out; omega
        case rel => exact ⟨(wrap64 (x2_1 + 1)), (t129), (t130), (.slice Ao32 t130.length co32), (by first | rfl | (simp; done) | (simp [*]; done)), H', ⟨by have := HK1.out; have := HJ3.out; omega⟩, ⟨by (with_reducible repeat (first | apply Kd.V_alloc | apply Kd.V_drewN | apply Kd.V_drew)); exact Kd.V_mono (Kd.V_far (p := ⟨gb110, 1, none⟩) (Kd.V_far (p := ⟨gb110, 0, none⟩) (Kd.V_far (p := ⟨gb134, 1, none⟩) (Kd.V_far (p := ⟨gb134, 0, none⟩) (Kd.V_mono (Kd.V_mono HO132.out (fun k_ hk => (⟨hk, hk.2⟩ : _ ∧ k_ ≠ gb134))) (fun k_ hk => (⟨hk, hk.1.1⟩ : _ ∧ k_ ≠ gb110))) (fun _ hk => hk.1.2) (.int .i64 t129)) (fun _ hk => hk.1.2) (.slice Ao32 t130.length co32)) (fun _ hk => hk.2) (.int .i64 t129)) (fun _ hk => hk.2) (.slice Ao32 t130.length co32)) (fun _ hk => hk.1.1.1)⟩, ⟨by (with_reducible repeat (first | refine Z3d ?_ _ | refine Z3e ?_ | refine Z3f ?_ _)); refine blk_put (cs := #[.int .i64 t129, .slice Ao27 x111001_1.length co27]) ?_ 1 _ rfl; (with_reducible repeat (first | refine Z3d ?_ _ | refine Z3e ?_ | refine Z3f ?_ _)); refine blk_put (cs := #[.int .i64 x111000_1, .slice Ao27 x111001_1.length co27]) ?_ 0 _ rfl; (with_reducible repeat (first | refine Z3d ?_ _ | refine Z3e ?_ | refine Z3f ?_ _)); refine blk_far ?_ NB110_134.out _; (with_reducible repeat (first | refine Z3d ?_ _ | refine Z3e ?_ | refine Z3f ?_ _)); refine blk_far ?_ NB110_134.out _; (with_reducible repeat (first | refine Z3d ?_ _ | refine Z3e ?_ | refine Z3f ?_ _)); exact BK110.out⟩, ⟨by repeat (first | (with_reducible first | exact HB.out | apply Z3j | apply Z3h | apply Z3i | refine Z3k ?_ GE110.out | refine Z3k ?_ GE134.out) | exact HB.out)⟩⟩
       ·
        rw [if_neg c25] at H
        have c25b0 : (t133 == 0) = false := beq_eq_false_iff_ne.mpr c25
        have c25b1 : (t133 != 0) = true := bne_iff_ne.mpr c25
        obtain rfl := Option.some.inj H
        have hcz34_0 : wc.cell? ⟨gb110, 0, none⟩ = some (.int .i64 x111000_1) := (Z3l BK110.out 0).trans rfl
        have hcz34_1 : wc.cell? ⟨gb110, 1, none⟩ = some (u111001) := (Z3l BK110.out 1).trans rfl
        have hfz34_0 := blk_frozen BK110.out 0
        have hfz34_1 := blk_frozen BK110.out 1
        obtain ⟨Ao35, co35, eo35⟩ := Kd.V_slice HO_111001.out
        subst eo35
        go_wp2_with (first | ((with_reducible refine gate_callee (f := 12) rfl ?_); refine goesL_ (some 28) rfl rfl Try.func12 (by kernel_rfl) rfl #[.agg #[.int .i64 x111000_1, .slice Ao35 x111001_1.length co35], .int .i64 x3_3, .agg #[.int .i64 0, .int .i64 x3_3, .string (⟨#[]⟩ : ByteArray)]] rfl (by (try simp only [List.map_toArray, List.map_cons, List.map_nil]); first | done | rfl | (simp only [List.length_drop, List.length_take]; rfl)) ?_; (with_reducible refine (window_Put.calls kj3 x111000_1 _ _ x111001_1 x3_3 0 x3_3 (⟨#[]⟩ : ByteArray) t129 t130 t133 _ ?side1 ?side2 A24.out).mono ?_); (case side1 => repeat (first | exact (Kd.V_reads' HO_111001.out).2.2 | (with_reducible refine Kd.C_alloc ?_ _) | (with_reducible refine Kd.C_drewN ?_ _) | (with_reducible refine Kd.C_drew ?_))); (case side2 => exact (Kd.V_reads' HO_111001.out).2.1); rintro e w36 ⟨v131, rfl, ho0, hb⟩; refine ⟨_, rfl, ?_⟩; have n0_ := Aside0.mk (Kd.V_below (by (with_reducible repeat (first | apply Kd.V_alloc | apply Kd.V_drewN | apply Kd.V_drew)); exact HO_111001.out) hb); have n1_ := Aside0.mk (Kd.V_lower (Kd.V_mono (ok' := fun k_ => k_ ≠ gb110) ho0 (fun k_ hk_ => (Kd.freshB (g := gb110) (o := .cells #[.int .i64 x111000_1, .slice Ao35 x111001_1.length co35] 24 (0, 0)) (by (with_reducible repeat (first | refine Z3d ?_ _ | refine Z3e ?_ | refine Z3f ?_ _)); exact BK110.out) k_ hk_))) (below_size (by repeat (first | (with_reducible first | exact HB.out | apply Z3j | apply Z3h | apply Z3i | refine Z3k ?_ GE110.out) | exact HB.out)))); have n2_ := Aside0.mk (blk_below (g := gb110) (o := .cells #[.int .i64 x111000_1, .slice Ao35 x111001_1.length co35] 24 (0, 0)) (by (with_reducible repeat (first | refine Z3d ?_ _ | refine Z3e ?_ | refine Z3f ?_ _)); exact BK110.out) hb); have n3_ := Aside0.mk (below_step (by repeat (first | (with_reducible first | exact HB.out | apply Z3j | apply Z3h | apply Z3i | refine Z3k ?_ GE110.out) | exact HB.out)) hb); clear HO_111001; clear BK110; clear HB; have HO_111001 := n0_; have HO132 := n1_; have BK110 := n2_; have HB := n3_; clear n0_ n1_ n2_ n3_; (try clear hb); (try clear hb2); (try clear hk); (try clear hi); (try clear ho0)) | ((with_reducible refine gate_dst (N := 4) rfl ?_); refine box_event ?hg (N := 4) ?hd (cs := #[.int .i64 0, .slice none 0 0]) (t := 24) ?hr ?_; (case hd => rfl); (case hg => rfl); (case hr => first | (go_simp; done) | (go_simp; rfl)); intro gb134 hg w37 hbox hb; have n0_ := Aside0.mk (Kd.V_below (Kd.V_elderB (by (with_reducible repeat (first | apply Kd.V_alloc | apply Kd.V_drewN | apply Kd.V_drew)); exact HO_111001.out) gb134 (Nat.le_of_eq hg.symm)) hb); have n1_ := Aside0.mk (Kd.V_below (Kd.V_elderB (by (with_reducible repeat (first | apply Kd.V_alloc | apply Kd.V_drewN | apply Kd.V_drew)); exact HO132.out) gb134 (Nat.le_of_eq hg.symm)) hb); have n2_ := Aside0.mk (blk_below (g := gb110) (o := .cells #[.int .i64 x111000_1, .slice Ao35 x111001_1.length co35] 24 (0, 0)) (by (with_reducible repeat (first | refine Z3d ?_ _ | refine Z3e ?_ | refine Z3f ?_ _)); exact BK110.out) hb); have n3_ := Aside0.mk (below_step (by repeat (first | (with_reducible first | exact HB.out | apply Z3j | apply Z3h | apply Z3i | refine Z3k ?_ GE110.out) | exact HB.out)) hb); have n4_ := Aside0.mk (hbox); have n5_ := Aside0.mk ((by rw [hg]; exact (below_size (by repeat (first | (with_reducible first | exact HB.out | apply Z3j | apply Z3h | apply Z3i | refine Z3k ?_ GE110.out) | exact HB.out))) : w.heap.size ≤ gb134)); have n6_ := Aside0.mk ((by rw [hg]; exact (below_size (by repeat (first | (with_reducible first | exact HB.out | apply Z3j | apply Z3h | apply Z3i | refine Z3k ?_ GE110.out) | exact HB.out))) : w.heap.size ≤ gb134)); have n7_ := Aside0.mk ((by rw [hg]; exact Nat.ne_of_lt (blk_lt (g := gb110) (o := .cells #[.int .i64 x111000_1, .slice Ao35 x111001_1.length co35] 24 (0, 0)) (by (with_reducible repeat (first | refine Z3d ?_ _ | refine Z3e ?_ | refine Z3f ?_ _)); exact BK110.out)) : gb110 ≠ gb134)); have n8_ := Aside0.mk ((by rw [hg]; exact Nat.ne_of_gt (blk_lt (g := gb110) (o := .cells #[.int .i64 x111000_1, .slice Ao35 x111001_1.length co35] 24 (0, 0)) (by (with_reducible repeat (first | refine Z3d ?_ _ | refine Z3e ?_ | refine Z3f ?_ _)); exact BK110.out)) : gb134 ≠ gb110)); clear HO_111001; clear HO132; clear BK110; clear HB; have HO_111001 := n0_; have HO132 := n1_; have BK110 := n2_; have HB := n3_; have BK134 := n4_; have GW134 := n5_; have GE134 := n6_; have NB110_134 := n7_; have NB134_110 := n8_; clear n0_ n1_ n2_ n3_ n4_ n5_ n6_ n7_ n8_; clear hb hbox hg; have hnb38 := NB134_110.out; have hnc38 := NB110_134.out; have hcz39_0 : w37.cell? ⟨gb134, 0, none⟩ = some (.int .i64 0) := (Z3l BK134.out 0).trans rfl; have hcz39_1 : w37.cell? ⟨gb134, 1, none⟩ = some (.slice none 0 0) := (Z3l BK134.out 1).trans rfl; have hfz39_0 := blk_frozen BK134.out 0; have hfz39_1 := blk_frozen BK134.out 1; obtain ⟨Ao40, co40, eo40⟩ := Kd.V_slice HO132.out; subst eo40))
        go_ret
        exact ⟨by first | rfl | (simp [errW_none, errW_some] <;> rfl) | (simp [*, errW_none, errW_some] <;> rfl), by repeat (first | (with_reducible first | exact HB.out | apply Z3j | apply Z3h | apply Z3i | refine Z3k ?_ GE110.out | refine Z3k ?_ GE134.out) | exact HB.out)⟩
   ·
    rw [if_neg c3] at H
    have c3b0 : decide (x2_1 < 10) = false := decide_eq_false c3
    clear c3
    replace H := Option.bind_eq_some_iff.mp H
    obtain ⟨⟨t111, t112, t113, t114, t115⟩, A410, H⟩ := H
    replace H : ((window_Look.f k1 x111000_1 x111001_1 4).bind fun bt117 => (if t115 = 9 then (if bt117.2.2.2.2 = 0 then (if bt117.2.2.2.1 = true then (if bt117.2.1 = 4 then (some (x111000_1 == 3)) else (some false)) else (some false)) else (some false)) else (some false))) = some r := H
    have A41 := Aside0.mk A410
    clear A410
    replace H := Option.bind_eq_some_iff.mp H
    obtain ⟨⟨t117, t118, t119, t120, t121⟩, A420, H⟩ := H
    replace H : (if t115 = 9 then (if t121 = 0 then (if t120 = true then (if t118 = 4 then (some (x111000_1 == 3)) else (some false)) else (some false)) else (some false)) else (some false)) = some r := H
    have A42 := Aside0.mk A420
    clear A420
    by_cases c43 : t115 = 9
    ·
     rw [if_pos c43] at H
     have c43b0 : (t115 == 9) = true := beq_iff_eq.mpr c43
     have c43b1 : (t115 != 9) = false := bne_eq_false_iff_eq.mpr c43
     clear c43
     by_cases c44 : t121 = 0
     ·
      rw [if_pos c44] at H
      have c44b0 : (t121 == 0) = true := beq_iff_eq.mpr c44
      have c44b1 : (t121 != 0) = false := bne_eq_false_iff_eq.mpr c44
      clear c44
      by_cases c45 : t120 = true
      ·
       subst c45
       have H1 : (if t118 = 4 then (some (x111000_1 == 3)) else (some false)) = some r := by rw [if_pos rfl] at H; exact H
       clear H
       have H := H1
       clear H1
       by_cases c46 : t118 = 4
       ·
        rw [if_pos c46] at H
        have c46b0 : (t118 == 4) = true := beq_iff_eq.mpr c46
        have c46b1 : (t118 != 4) = false := bne_eq_false_iff_eq.mpr c46
        clear c46
        obtain rfl := Option.some.inj H
        have hcz47_0 : wr.cell? ⟨gb110, 0, none⟩ = some (.int .i64 x111000_1) := (Z3l BK110.out 0).trans rfl
        have hcz47_1 : wr.cell? ⟨gb110, 1, none⟩ = some (u111001) := (Z3l BK110.out 1).trans rfl
        have hfz47_0 := blk_frozen BK110.out 0
        have hfz47_1 := blk_frozen BK110.out 1
        obtain ⟨Ao48, co48, eo48⟩ := Kd.V_slice HO_111001.out
        subst eo48
        go_wp2_with (first | ((with_reducible refine gate_callee (f := 10) rfl ?_); refine goesL_ (some 36) rfl rfl Try.func10 (by kernel_rfl) rfl #[.agg #[.int .i64 x111000_1, .slice Ao48 x111001_1.length co48], .int .i64 3] rfl (by (try simp only [List.map_toArray, List.map_cons, List.map_nil]); first | done | rfl | (simp only [List.length_drop, List.length_take]; rfl)) ?_; (with_reducible refine (window_Look.calls k1 x111000_1 _ _ x111001_1 3 t111 t112 t113 t114 t115 _ ?side1 ?side2 A41.out).mono ?_); (case side1 => repeat (first | exact (Kd.V_reads' HO_111001.out).2.2 | (with_reducible refine Kd.C_alloc ?_ _) | (with_reducible refine Kd.C_drewN ?_ _) | (with_reducible refine Kd.C_drew ?_))); (case side2 => exact (Kd.V_reads' HO_111001.out).2.1); rintro e w49 ⟨rfl, hb⟩; refine ⟨_, rfl, ?_⟩; have n0_ := Aside0.mk (Kd.V_below (by (with_reducible repeat (first | apply Kd.V_alloc | apply Kd.V_drewN | apply Kd.V_drew)); exact HO_111001.out) hb); have n1_ := Aside0.mk (blk_below (g := gb110) (o := .cells #[.int .i64 x111000_1, .slice Ao48 x111001_1.length co48] 24 (0, 0)) (by (with_reducible repeat (first | refine Z3d ?_ _ | refine Z3e ?_ | refine Z3f ?_ _)); exact BK110.out) hb); have n2_ := Aside0.mk (below_step (by repeat (first | (with_reducible first | exact HB.out | apply Z3j | apply Z3h | apply Z3i | refine Z3k ?_ GE110.out) | exact HB.out)) hb); clear HO_111001; clear BK110; clear HB; have HO_111001 := n0_; have BK110 := n1_; have HB := n2_; clear n0_ n1_ n2_; (try clear hb); (try clear hb2); (try clear hk); (try clear hi)) | ((with_reducible refine gate_dst (N := 6) rfl ?_); refine box_event ?hg (N := 6) ?hd (cs := #[.int .i64 0, .int .i64 0, .string (⟨#[]⟩ : ByteArray)]) (t := 27) ?hr ?_; (case hd => rfl); (case hg => rfl); (case hr => first | (go_simp; done) | (go_simp; rfl)); intro gb116 hg w50 hbox hb; have n0_ := Aside0.mk (Kd.V_below (Kd.V_elderB (by (with_reducible repeat (first | apply Kd.V_alloc | apply Kd.V_drewN | apply Kd.V_drew)); exact HO_111001.out) gb116 (Nat.le_of_eq hg.symm)) hb); have n1_ := Aside0.mk (blk_below (g := gb110) (o := .cells #[.int .i64 x111000_1, .slice Ao48 x111001_1.length co48] 24 (0, 0)) (by (with_reducible repeat (first | refine Z3d ?_ _ | refine Z3e ?_ | refine Z3f ?_ _)); exact BK110.out) hb); have n2_ := Aside0.mk (below_step (by repeat (first | (with_reducible first | exact HB.out | apply Z3j | apply Z3h | apply Z3i | refine Z3k ?_ GE110.out) | exact HB.out)) hb); have n3_ := Aside0.mk (hbox); have n4_ := Aside0.mk ((by rw [hg]; exact (below_size (by repeat (first | (with_reducible first | exact HB.out | apply Z3j | apply Z3h | apply Z3i | refine Z3k ?_ GE110.out) | exact HB.out))) : w.heap.size ≤ gb116)); have n5_ := Aside0.mk ((by rw [hg]; exact (below_size (by repeat (first | (with_reducible first | exact HB.out | apply Z3j | apply Z3h | apply Z3i | refine Z3k ?_ GE110.out) | exact HB.out))) : w.heap.size ≤ gb116)); have n6_ := Aside0.mk ((by rw [hg]; exact Nat.ne_of_lt (blk_lt (g := gb110) (o := .cells #[.int .i64 x111000_1, .slice Ao48 x111001_1.length co48] 24 (0, 0)) (by (with_reducible repeat (first | refine Z3d ?_ _ | refine Z3e ?_ | refine Z3f ?_ _)); exact BK110.out)) : gb110 ≠ gb116)); have n7_ := Aside0.mk ((by rw [hg]; exact Nat.ne_of_gt (blk_lt (g := gb110) (o := .cells #[.int .i64 x111000_1, .slice Ao48 x111001_1.length co48] 24 (0, 0)) (by (with_reducible repeat (first | refine Z3d ?_ _ | refine Z3e ?_ | refine Z3f ?_ _)); exact BK110.out)) : gb116 ≠ gb110)); clear HO_111001; clear BK110; clear HB; have HO_111001 := n0_; have BK110 := n1_; have HB := n2_; have BK116 := n3_; have GW116 := n4_; have GE116 := n5_; have NB110_116 := n6_; have NB116_110 := n7_; clear n0_ n1_ n2_ n3_ n4_ n5_ n6_ n7_; clear hb hbox hg; have hnb51 := NB116_110.out; have hnc51 := NB110_116.out; have hcz52_0 : w50.cell? ⟨gb116, 0, none⟩ = some (.int .i64 0) := (Z3l BK116.out 0).trans rfl; have hcz52_1 : w50.cell? ⟨gb116, 1, none⟩ = some (.int .i64 0) := (Z3l BK116.out 1).trans rfl; have hcz52_2 : w50.cell? ⟨gb116, 2, none⟩ = some (.string (⟨#[]⟩ : ByteArray)) := (Z3l BK116.out 2).trans rfl; have hfz52_0 := blk_frozen BK116.out 0; have hfz52_1 := blk_frozen BK116.out 1; have hfz52_2 := blk_frozen BK116.out 2; have hcz53_0 : w50.cell? ⟨gb110, 0, none⟩ = some (.int .i64 x111000_1) := (Z3l BK110.out 0).trans rfl; have hcz53_1 : w50.cell? ⟨gb110, 1, none⟩ = some (.slice Ao48 x111001_1.length co48) := (Z3l BK110.out 1).trans rfl; have hfz53_0 := blk_frozen BK110.out 0; have hfz53_1 := blk_frozen BK110.out 1) | ((with_reducible refine gate_callee (f := 10) rfl ?_); refine goesL_ (some 42) rfl rfl Try.func10 (by kernel_rfl) rfl #[.agg #[.int .i64 x111000_1, .slice Ao48 x111001_1.length co48], .int .i64 4] rfl (by (try simp only [List.map_toArray, List.map_cons, List.map_nil]); first | done | rfl | (simp only [List.length_drop, List.length_take]; rfl)) ?_; (with_reducible refine (window_Look.calls k1 x111000_1 _ _ x111001_1 4 t117 t118 t119 true t121 _ ?side1 ?side2 A42.out).mono ?_); (case side1 => refine (Kd.V_reads' (e := 42) (base := w.heap.size) (ok := fun k_ => (k_ ≠ gb110 ∧ k_ ≠ gb116)) (n := x111001_1.length) (c := co48) ?_).2.2; exact (by (with_reducible repeat (first | apply Kd.V_alloc | apply Kd.V_drewN | apply Kd.V_drew)); exact (Kd.V_mono (Kd.V_far (p := ⟨gb116, 2, none⟩) (Kd.V_far (p := ⟨gb116, 1, none⟩) (Kd.V_far (p := ⟨gb116, 0, none⟩) (Kd.V_mono HO_111001.out (fun k_ hk => (⟨hk, hk.2⟩ : _ ∧ k_ ≠ gb116))) (fun _ hk => hk.2) (.int .i64 t111)) (fun _ hk => hk.2) (.int .i64 t112)) (fun _ hk => hk.2) (.string t113)) (fun _ h_ => h_.1)))); (case side2 => exact (Kd.V_reads' HO_111001.out).2.1); rintro e w54 ⟨rfl, hb⟩; refine ⟨_, rfl, ?_⟩; have n0_ := Aside0.mk (Kd.V_below (by (with_reducible repeat (first | apply Kd.V_alloc | apply Kd.V_drewN | apply Kd.V_drew)); exact (Kd.V_mono (Kd.V_far (p := ⟨gb116, 2, none⟩) (Kd.V_far (p := ⟨gb116, 1, none⟩) (Kd.V_far (p := ⟨gb116, 0, none⟩) (Kd.V_mono HO_111001.out (fun k_ hk => (⟨hk, hk.2⟩ : _ ∧ k_ ≠ gb116))) (fun _ hk => hk.2) (.int .i64 t111)) (fun _ hk => hk.2) (.int .i64 t112)) (fun _ hk => hk.2) (.string t113)) (fun _ h_ => h_.1))) hb); have n1_ := Aside0.mk (blk_below (g := gb110) (o := .cells #[.int .i64 x111000_1, .slice Ao48 x111001_1.length co48] 24 (0, 0)) (by (with_reducible repeat (first | refine Z3d ?_ _ | refine Z3e ?_ | refine Z3f ?_ _)); refine blk_far ?_ NB110_116.out _; (with_reducible repeat (first | refine Z3d ?_ _ | refine Z3e ?_ | refine Z3f ?_ _)); refine blk_far ?_ NB110_116.out _; (with_reducible repeat (first | refine Z3d ?_ _ | refine Z3e ?_ | refine Z3f ?_ _)); refine blk_far ?_ NB110_116.out _; (with_reducible repeat (first | refine Z3d ?_ _ | refine Z3e ?_ | refine Z3f ?_ _)); exact BK110.out) hb); have n2_ := Aside0.mk (blk_below (g := gb116) (o := .cells #[.int .i64 t111, .int .i64 t112, .string t113] 27 (0, 0)) (by (with_reducible repeat (first | refine Z3d ?_ _ | refine Z3e ?_ | refine Z3f ?_ _)); refine blk_put (cs := #[.int .i64 t111, .int .i64 t112, .string (⟨#[]⟩ : ByteArray)]) ?_ 2 _ rfl; (with_reducible repeat (first | refine Z3d ?_ _ | refine Z3e ?_ | refine Z3f ?_ _)); refine blk_put (cs := #[.int .i64 t111, .int .i64 0, .string (⟨#[]⟩ : ByteArray)]) ?_ 1 _ rfl; (with_reducible repeat (first | refine Z3d ?_ _ | refine Z3e ?_ | refine Z3f ?_ _)); refine blk_put (cs := #[.int .i64 0, .int .i64 0, .string (⟨#[]⟩ : ByteArray)]) ?_ 0 _ rfl; (with_reducible repeat (first | refine Z3d ?_ _ | refine Z3e ?_ | refine Z3f ?_ _)); exact BK116.out) hb); have n3_ := Aside0.mk (below_step (by repeat (first | (with_reducible first | exact HB.out | apply Z3j | apply Z3h | apply Z3i | refine Z3k ?_ GE110.out | refine Z3k ?_ GE116.out) | exact HB.out)) hb); clear HO_111001; clear BK110; clear BK116; clear HB; have HO_111001 := n0_; have BK110 := n1_; have BK116 := n2_; have HB := n3_; clear n0_ n1_ n2_ n3_; (try clear hb); (try clear hb2); (try clear hk); (try clear hi)) | ((with_reducible refine gate_dst (N := 9) rfl ?_); refine box_event ?hg (N := 9) ?hd (cs := #[.int .i64 0, .int .i64 0, .string (⟨#[]⟩ : ByteArray)]) (t := 27) ?hr ?_; (case hd => rfl); (case hg => rfl); (case hr => first | (go_simp; done) | (go_simp; rfl)); intro gb122 hg w55 hbox hb; have n0_ := Aside0.mk (Kd.V_below (Kd.V_elderB (by (with_reducible repeat (first | apply Kd.V_alloc | apply Kd.V_drewN | apply Kd.V_drew)); exact HO_111001.out) gb122 (Nat.le_of_eq hg.symm)) hb); have n1_ := Aside0.mk (blk_below (g := gb110) (o := .cells #[.int .i64 x111000_1, .slice Ao48 x111001_1.length co48] 24 (0, 0)) (by (with_reducible repeat (first | refine Z3d ?_ _ | refine Z3e ?_ | refine Z3f ?_ _)); exact BK110.out) hb); have n2_ := Aside0.mk (blk_below (g := gb116) (o := .cells #[.int .i64 t111, .int .i64 t112, .string t113] 27 (0, 0)) (by (with_reducible repeat (first | refine Z3d ?_ _ | refine Z3e ?_ | refine Z3f ?_ _)); exact BK116.out) hb); have n3_ := Aside0.mk (below_step (by repeat (first | (with_reducible first | exact HB.out | apply Z3j | apply Z3h | apply Z3i | refine Z3k ?_ GE110.out | refine Z3k ?_ GE116.out) | exact HB.out)) hb); have n4_ := Aside0.mk (hbox); have n5_ := Aside0.mk ((by rw [hg]; exact (below_size (by repeat (first | (with_reducible first | exact HB.out | apply Z3j | apply Z3h | apply Z3i | refine Z3k ?_ GE110.out | refine Z3k ?_ GE116.out) | exact HB.out))) : w.heap.size ≤ gb122)); have n6_ := Aside0.mk ((by rw [hg]; exact (below_size (by repeat (first | (with_reducible first | exact HB.out | apply Z3j | apply Z3h | apply Z3i | refine Z3k ?_ GE110.out | refine Z3k ?_ GE116.out) | exact HB.out))) : w.heap.size ≤ gb122)); have n7_ := Aside0.mk ((by rw [hg]; exact Nat.ne_of_lt (blk_lt (g := gb110) (o := .cells #[.int .i64 x111000_1, .slice Ao48 x111001_1.length co48] 24 (0, 0)) (by (with_reducible repeat (first | refine Z3d ?_ _ | refine Z3e ?_ | refine Z3f ?_ _)); exact BK110.out)) : gb110 ≠ gb122)); have n8_ := Aside0.mk ((by rw [hg]; exact Nat.ne_of_gt (blk_lt (g := gb110) (o := .cells #[.int .i64 x111000_1, .slice Ao48 x111001_1.length co48] 24 (0, 0)) (by (with_reducible repeat (first | refine Z3d ?_ _ | refine Z3e ?_ | refine Z3f ?_ _)); exact BK110.out)) : gb122 ≠ gb110)); have n9_ := Aside0.mk ((by rw [hg]; exact Nat.ne_of_lt (blk_lt (g := gb116) (o := .cells #[.int .i64 t111, .int .i64 t112, .string t113] 27 (0, 0)) (by (with_reducible repeat (first | refine Z3d ?_ _ | refine Z3e ?_ | refine Z3f ?_ _)); exact BK116.out)) : gb116 ≠ gb122)); have n10_ := Aside0.mk ((by rw [hg]; exact Nat.ne_of_gt (blk_lt (g := gb116) (o := .cells #[.int .i64 t111, .int .i64 t112, .string t113] 27 (0, 0)) (by (with_reducible repeat (first | refine Z3d ?_ _ | refine Z3e ?_ | refine Z3f ?_ _)); exact BK116.out)) : gb122 ≠ gb116)); clear HO_111001; clear BK110; clear BK116; clear HB; have HO_111001 := n0_; have BK110 := n1_; have BK116 := n2_; have HB := n3_; have BK122 := n4_; have GW122 := n5_; have GE122 := n6_; have NB110_122 := n7_; have NB122_110 := n8_; have NB116_122 := n9_; have NB122_116 := n10_; clear n0_ n1_ n2_ n3_ n4_ n5_ n6_ n7_ n8_ n9_ n10_; clear hb hbox hg; have hnb56 := NB122_110.out; have hnc56 := NB110_122.out; have hnb57 := NB122_116.out; have hnc57 := NB116_122.out; have hcz58_0 : w55.cell? ⟨gb122, 0, none⟩ = some (.int .i64 0) := (Z3l BK122.out 0).trans rfl; have hcz58_1 : w55.cell? ⟨gb122, 1, none⟩ = some (.int .i64 0) := (Z3l BK122.out 1).trans rfl; have hcz58_2 : w55.cell? ⟨gb122, 2, none⟩ = some (.string (⟨#[]⟩ : ByteArray)) := (Z3l BK122.out 2).trans rfl; have hfz58_0 := blk_frozen BK122.out 0; have hfz58_1 := blk_frozen BK122.out 1; have hfz58_2 := blk_frozen BK122.out 2; have hcz59_0 : w55.cell? ⟨gb110, 0, none⟩ = some (.int .i64 x111000_1) := (Z3l BK110.out 0).trans rfl; have hcz59_1 : w55.cell? ⟨gb110, 1, none⟩ = some (.slice Ao48 x111001_1.length co48) := (Z3l BK110.out 1).trans rfl; have hfz59_0 := blk_frozen BK110.out 0; have hfz59_1 := blk_frozen BK110.out 1))
        go_ret
        exact ⟨by first | rfl | (simp [errW_none, errW_some] <;> rfl) | (simp [*, errW_none, errW_some] <;> rfl), by repeat (first | (with_reducible first | exact HB.out | apply Z3j | apply Z3h | apply Z3i | refine Z3k ?_ GE110.out | refine Z3k ?_ GE116.out | refine Z3k ?_ GE122.out) | exact HB.out)⟩
       ·
        rw [if_neg c46] at H
        have c46b0 : (t118 == 4) = false := beq_eq_false_iff_ne.mpr c46
        have c46b1 : (t118 != 4) = true := bne_iff_ne.mpr c46
        obtain rfl := Option.some.inj H
        have hcz60_0 : wr.cell? ⟨gb110, 0, none⟩ = some (.int .i64 x111000_1) := (Z3l BK110.out 0).trans rfl
        have hcz60_1 : wr.cell? ⟨gb110, 1, none⟩ = some (u111001) := (Z3l BK110.out 1).trans rfl
        have hfz60_0 := blk_frozen BK110.out 0
        have hfz60_1 := blk_frozen BK110.out 1
        obtain ⟨Ao61, co61, eo61⟩ := Kd.V_slice HO_111001.out
        subst eo61
        go_wp2_with (first | ((with_reducible refine gate_callee (f := 10) rfl ?_); refine goesL_ (some 36) rfl rfl Try.func10 (by kernel_rfl) rfl #[.agg #[.int .i64 x111000_1, .slice Ao61 x111001_1.length co61], .int .i64 3] rfl (by (try simp only [List.map_toArray, List.map_cons, List.map_nil]); first | done | rfl | (simp only [List.length_drop, List.length_take]; rfl)) ?_; (with_reducible refine (window_Look.calls k1 x111000_1 _ _ x111001_1 3 t111 t112 t113 t114 t115 _ ?side1 ?side2 A41.out).mono ?_); (case side1 => repeat (first | exact (Kd.V_reads' HO_111001.out).2.2 | (with_reducible refine Kd.C_alloc ?_ _) | (with_reducible refine Kd.C_drewN ?_ _) | (with_reducible refine Kd.C_drew ?_))); (case side2 => exact (Kd.V_reads' HO_111001.out).2.1); rintro e w62 ⟨rfl, hb⟩; refine ⟨_, rfl, ?_⟩; have n0_ := Aside0.mk (Kd.V_below (by (with_reducible repeat (first | apply Kd.V_alloc | apply Kd.V_drewN | apply Kd.V_drew)); exact HO_111001.out) hb); have n1_ := Aside0.mk (blk_below (g := gb110) (o := .cells #[.int .i64 x111000_1, .slice Ao61 x111001_1.length co61] 24 (0, 0)) (by (with_reducible repeat (first | refine Z3d ?_ _ | refine Z3e ?_ | refine Z3f ?_ _)); exact BK110.out) hb); have n2_ := Aside0.mk (below_step (by repeat (first | (with_reducible first | exact HB.out | apply Z3j | apply Z3h | apply Z3i | refine Z3k ?_ GE110.out) | exact HB.out)) hb); clear HO_111001; clear BK110; clear HB; have HO_111001 := n0_; have BK110 := n1_; have HB := n2_; clear n0_ n1_ n2_; (try clear hb); (try clear hb2); (try clear hk); (try clear hi)) | ((with_reducible refine gate_dst (N := 6) rfl ?_); refine box_event ?hg (N := 6) ?hd (cs := #[.int .i64 0, .int .i64 0, .string (⟨#[]⟩ : ByteArray)]) (t := 27) ?hr ?_; (case hd => rfl); (case hg => rfl); (case hr => first | (go_simp; done) | (go_simp; rfl)); intro gb116 hg w63 hbox hb; have n0_ := Aside0.mk (Kd.V_below (Kd.V_elderB (by (with_reducible repeat (first | apply Kd.V_alloc | apply Kd.V_drewN | apply Kd.V_drew)); exact HO_111001.out) gb116 (Nat.le_of_eq hg.symm)) hb); have n1_ := Aside0.mk (blk_below (g := gb110) (o := .cells #[.int .i64 x111000_1, .slice Ao61 x111001_1.length co61] 24 (0, 0)) (by (with_reducible repeat (first | refine Z3d ?_ _ | refine Z3e ?_ | refine Z3f ?_ _)); exact BK110.out) hb); have n2_ := Aside0.mk (below_step (by repeat (first | (with_reducible first | exact HB.out | apply Z3j | apply Z3h | apply Z3i | refine Z3k ?_ GE110.out) | exact HB.out)) hb); have n3_ := Aside0.mk (hbox); have n4_ := Aside0.mk ((by rw [hg]; exact (below_size (by repeat (first | (with_reducible first | exact HB.out | apply Z3j | apply Z3h | apply Z3i | refine Z3k ?_ GE110.out) | exact HB.out))) : w.heap.size ≤ gb116)); have n5_ := Aside0.mk ((by rw [hg]; exact (below_size (by repeat (first | (with_reducible first | exact HB.out | apply Z3j | apply Z3h | apply Z3i | refine Z3k ?_ GE110.out) | exact HB.out))) : w.heap.size ≤ gb116)); have n6_ := Aside0.mk ((by rw [hg]; exact Nat.ne_of_lt (blk_lt (g := gb110) (o := .cells #[.int .i64 x111000_1, .slice Ao61 x111001_1.length co61] 24 (0, 0)) (by (with_reducible repeat (first | refine Z3d ?_ _ | refine Z3e ?_ | refine Z3f ?_ _)); exact BK110.out)) : gb110 ≠ gb116)); have n7_ := Aside0.mk ((by rw [hg]; exact Nat.ne_of_gt (blk_lt (g := gb110) (o := .cells #[.int .i64 x111000_1, .slice Ao61 x111001_1.length co61] 24 (0, 0)) (by (with_reducible repeat (first | refine Z3d ?_ _ | refine Z3e ?_ | refine Z3f ?_ _)); exact BK110.out)) : gb116 ≠ gb110)); clear HO_111001; clear BK110; clear HB; have HO_111001 := n0_; have BK110 := n1_; have HB := n2_; have BK116 := n3_; have GW116 := n4_; have GE116 := n5_; have NB110_116 := n6_; have NB116_110 := n7_; clear n0_ n1_ n2_ n3_ n4_ n5_ n6_ n7_; clear hb hbox hg; have hnb64 := NB116_110.out; have hnc64 := NB110_116.out; have hcz65_0 : w63.cell? ⟨gb116, 0, none⟩ = some (.int .i64 0) := (Z3l BK116.out 0).trans rfl; have hcz65_1 : w63.cell? ⟨gb116, 1, none⟩ = some (.int .i64 0) := (Z3l BK116.out 1).trans rfl; have hcz65_2 : w63.cell? ⟨gb116, 2, none⟩ = some (.string (⟨#[]⟩ : ByteArray)) := (Z3l BK116.out 2).trans rfl; have hfz65_0 := blk_frozen BK116.out 0; have hfz65_1 := blk_frozen BK116.out 1; have hfz65_2 := blk_frozen BK116.out 2; have hcz66_0 : w63.cell? ⟨gb110, 0, none⟩ = some (.int .i64 x111000_1) := (Z3l BK110.out 0).trans rfl; have hcz66_1 : w63.cell? ⟨gb110, 1, none⟩ = some (.slice Ao61 x111001_1.length co61) := (Z3l BK110.out 1).trans rfl; have hfz66_0 := blk_frozen BK110.out 0; have hfz66_1 := blk_frozen BK110.out 1) | ((with_reducible refine gate_callee (f := 10) rfl ?_); refine goesL_ (some 42) rfl rfl Try.func10 (by kernel_rfl) rfl #[.agg #[.int .i64 x111000_1, .slice Ao61 x111001_1.length co61], .int .i64 4] rfl (by (try simp only [List.map_toArray, List.map_cons, List.map_nil]); first | done | rfl | (simp only [List.length_drop, List.length_take]; rfl)) ?_; (with_reducible refine (window_Look.calls k1 x111000_1 _ _ x111001_1 4 t117 t118 t119 true t121 _ ?side1 ?side2 A42.out).mono ?_); (case side1 => refine (Kd.V_reads' (e := 42) (base := w.heap.size) (ok := fun k_ => (k_ ≠ gb110 ∧ k_ ≠ gb116)) (n := x111001_1.length) (c := co61) ?_).2.2; exact (by (with_reducible repeat (first | apply Kd.V_alloc | apply Kd.V_drewN | apply Kd.V_drew)); exact (Kd.V_mono (Kd.V_far (p := ⟨gb116, 2, none⟩) (Kd.V_far (p := ⟨gb116, 1, none⟩) (Kd.V_far (p := ⟨gb116, 0, none⟩) (Kd.V_mono HO_111001.out (fun k_ hk => (⟨hk, hk.2⟩ : _ ∧ k_ ≠ gb116))) (fun _ hk => hk.2) (.int .i64 t111)) (fun _ hk => hk.2) (.int .i64 t112)) (fun _ hk => hk.2) (.string t113)) (fun _ h_ => h_.1)))); (case side2 => exact (Kd.V_reads' HO_111001.out).2.1); rintro e w67 ⟨rfl, hb⟩; refine ⟨_, rfl, ?_⟩; have n0_ := Aside0.mk (Kd.V_below (by (with_reducible repeat (first | apply Kd.V_alloc | apply Kd.V_drewN | apply Kd.V_drew)); exact (Kd.V_mono (Kd.V_far (p := ⟨gb116, 2, none⟩) (Kd.V_far (p := ⟨gb116, 1, none⟩) (Kd.V_far (p := ⟨gb116, 0, none⟩) (Kd.V_mono HO_111001.out (fun k_ hk => (⟨hk, hk.2⟩ : _ ∧ k_ ≠ gb116))) (fun _ hk => hk.2) (.int .i64 t111)) (fun _ hk => hk.2) (.int .i64 t112)) (fun _ hk => hk.2) (.string t113)) (fun _ h_ => h_.1))) hb); have n1_ := Aside0.mk (blk_below (g := gb110) (o := .cells #[.int .i64 x111000_1, .slice Ao61 x111001_1.length co61] 24 (0, 0)) (by (with_reducible repeat (first | refine Z3d ?_ _ | refine Z3e ?_ | refine Z3f ?_ _)); refine blk_far ?_ NB110_116.out _; (with_reducible repeat (first | refine Z3d ?_ _ | refine Z3e ?_ | refine Z3f ?_ _)); refine blk_far ?_ NB110_116.out _; (with_reducible repeat (first | refine Z3d ?_ _ | refine Z3e ?_ | refine Z3f ?_ _)); refine blk_far ?_ NB110_116.out _; (with_reducible repeat (first | refine Z3d ?_ _ | refine Z3e ?_ | refine Z3f ?_ _)); exact BK110.out) hb); have n2_ := Aside0.mk (blk_below (g := gb116) (o := .cells #[.int .i64 t111, .int .i64 t112, .string t113] 27 (0, 0)) (by (with_reducible repeat (first | refine Z3d ?_ _ | refine Z3e ?_ | refine Z3f ?_ _)); refine blk_put (cs := #[.int .i64 t111, .int .i64 t112, .string (⟨#[]⟩ : ByteArray)]) ?_ 2 _ rfl; (with_reducible repeat (first | refine Z3d ?_ _ | refine Z3e ?_ | refine Z3f ?_ _)); refine blk_put (cs := #[.int .i64 t111, .int .i64 0, .string (⟨#[]⟩ : ByteArray)]) ?_ 1 _ rfl; (with_reducible repeat (first | refine Z3d ?_ _ | refine Z3e ?_ | refine Z3f ?_ _)); refine blk_put (cs := #[.int .i64 0, .int .i64 0, .string (⟨#[]⟩ : ByteArray)]) ?_ 0 _ rfl; (with_reducible repeat (first | refine Z3d ?_ _ | refine Z3e ?_ | refine Z3f ?_ _)); exact BK116.out) hb); have n3_ := Aside0.mk (below_step (by repeat (first | (with_reducible first | exact HB.out | apply Z3j | apply Z3h | apply Z3i | refine Z3k ?_ GE110.out | refine Z3k ?_ GE116.out) | exact HB.out)) hb); clear HO_111001; clear BK110; clear BK116; clear HB; have HO_111001 := n0_; have BK110 := n1_; have BK116 := n2_; have HB := n3_; clear n0_ n1_ n2_ n3_; (try clear hb); (try clear hb2); (try clear hk); (try clear hi)) | ((with_reducible refine gate_dst (N := 9) rfl ?_); refine box_event ?hg (N := 9) ?hd (cs := #[.int .i64 0, .int .i64 0, .string (⟨#[]⟩ : ByteArray)]) (t := 27) ?hr ?_; (case hd => rfl); (case hg => rfl); (case hr => first | (go_simp; done) | (go_simp; rfl)); intro gb122 hg w68 hbox hb; have n0_ := Aside0.mk (Kd.V_below (Kd.V_elderB (by (with_reducible repeat (first | apply Kd.V_alloc | apply Kd.V_drewN | apply Kd.V_drew)); exact HO_111001.out) gb122 (Nat.le_of_eq hg.symm)) hb); have n1_ := Aside0.mk (blk_below (g := gb110) (o := .cells #[.int .i64 x111000_1, .slice Ao61 x111001_1.length co61] 24 (0, 0)) (by (with_reducible repeat (first | refine Z3d ?_ _ | refine Z3e ?_ | refine Z3f ?_ _)); exact BK110.out) hb); have n2_ := Aside0.mk (blk_below (g := gb116) (o := .cells #[.int .i64 t111, .int .i64 t112, .string t113] 27 (0, 0)) (by (with_reducible repeat (first | refine Z3d ?_ _ | refine Z3e ?_ | refine Z3f ?_ _)); exact BK116.out) hb); have n3_ := Aside0.mk (below_step (by repeat (first | (with_reducible first | exact HB.out | apply Z3j | apply Z3h | apply Z3i | refine Z3k ?_ GE110.out | refine Z3k ?_ GE116.out) | exact HB.out)) hb); have n4_ := Aside0.mk (hbox); have n5_ := Aside0.mk ((by rw [hg]; exact (below_size (by repeat (first | (with_reducible first | exact HB.out | apply Z3j | apply Z3h | apply Z3i | refine Z3k ?_ GE110.out | refine Z3k ?_ GE116.out) | exact HB.out))) : w.heap.size ≤ gb122)); have n6_ := Aside0.mk ((by rw [hg]; exact (below_size (by repeat (first | (with_reducible first | exact HB.out | apply Z3j | apply Z3h | apply Z3i | refine Z3k ?_ GE110.out | refine Z3k ?_ GE116.out) | exact HB.out))) : w.heap.size ≤ gb122)); have n7_ := Aside0.mk ((by rw [hg]; exact Nat.ne_of_lt (blk_lt (g := gb110) (o := .cells #[.int .i64 x111000_1, .slice Ao61 x111001_1.length co61] 24 (0, 0)) (by (with_reducible repeat (first | refine Z3d ?_ _ | refine Z3e ?_ | refine Z3f ?_ _)); exact BK110.out)) : gb110 ≠ gb122)); have n8_ := Aside0.mk ((by rw [hg]; exact Nat.ne_of_gt (blk_lt (g := gb110) (o := .cells #[.int .i64 x111000_1, .slice Ao61 x111001_1.length co61] 24 (0, 0)) (by (with_reducible repeat (first | refine Z3d ?_ _ | refine Z3e ?_ | refine Z3f ?_ _)); exact BK110.out)) : gb122 ≠ gb110)); have n9_ := Aside0.mk ((by rw [hg]; exact Nat.ne_of_lt (blk_lt (g := gb116) (o := .cells #[.int .i64 t111, .int .i64 t112, .string t113] 27 (0, 0)) (by (with_reducible repeat (first | refine Z3d ?_ _ | refine Z3e ?_ | refine Z3f ?_ _)); exact BK116.out)) : gb116 ≠ gb122)); have n10_ := Aside0.mk ((by rw [hg]; exact Nat.ne_of_gt (blk_lt (g := gb116) (o := .cells #[.int .i64 t111, .int .i64 t112, .string t113] 27 (0, 0)) (by (with_reducible repeat (first | refine Z3d ?_ _ | refine Z3e ?_ | refine Z3f ?_ _)); exact BK116.out)) : gb122 ≠ gb116)); clear HO_111001; clear BK110; clear BK116; clear HB; have HO_111001 := n0_; have BK110 := n1_; have BK116 := n2_; have HB := n3_; have BK122 := n4_; have GW122 := n5_; have GE122 := n6_; have NB110_122 := n7_; have NB122_110 := n8_; have NB116_122 := n9_; have NB122_116 := n10_; clear n0_ n1_ n2_ n3_ n4_ n5_ n6_ n7_ n8_ n9_ n10_; clear hb hbox hg; have hnb69 := NB122_110.out; have hnc69 := NB110_122.out; have hnb70 := NB122_116.out; have hnc70 := NB116_122.out; have hcz71_0 : w68.cell? ⟨gb122, 0, none⟩ = some (.int .i64 0) := (Z3l BK122.out 0).trans rfl; have hcz71_1 : w68.cell? ⟨gb122, 1, none⟩ = some (.int .i64 0) := (Z3l BK122.out 1).trans rfl; have hcz71_2 : w68.cell? ⟨gb122, 2, none⟩ = some (.string (⟨#[]⟩ : ByteArray)) := (Z3l BK122.out 2).trans rfl; have hfz71_0 := blk_frozen BK122.out 0; have hfz71_1 := blk_frozen BK122.out 1; have hfz71_2 := blk_frozen BK122.out 2))
        go_ret
        exact ⟨by first | rfl | (simp [errW_none, errW_some] <;> rfl) | (simp [*, errW_none, errW_some] <;> rfl), by repeat (first | (with_reducible first | exact HB.out | apply Z3j | apply Z3h | apply Z3i | refine Z3k ?_ GE110.out | refine Z3k ?_ GE116.out | refine Z3k ?_ GE122.out) | exact HB.out)⟩
      ·
       replace c45 := Bool.eq_false_iff.mpr c45
       subst c45
       have H1 : (some false) = some r := by rw [if_neg (show ¬ (false = true) by decide)] at H; exact H
       clear H
       have H := H1
       clear H1
       obtain rfl := Option.some.inj H
       have hcz72_0 : wr.cell? ⟨gb110, 0, none⟩ = some (.int .i64 x111000_1) := (Z3l BK110.out 0).trans rfl
       have hcz72_1 : wr.cell? ⟨gb110, 1, none⟩ = some (u111001) := (Z3l BK110.out 1).trans rfl
       have hfz72_0 := blk_frozen BK110.out 0
       have hfz72_1 := blk_frozen BK110.out 1
       obtain ⟨Ao73, co73, eo73⟩ := Kd.V_slice HO_111001.out
       subst eo73
       go_wp2_with (first | ((with_reducible refine gate_callee (f := 10) rfl ?_); refine goesL_ (some 36) rfl rfl Try.func10 (by kernel_rfl) rfl #[.agg #[.int .i64 x111000_1, .slice Ao73 x111001_1.length co73], .int .i64 3] rfl (by (try simp only [List.map_toArray, List.map_cons, List.map_nil]); first | done | rfl | (simp only [List.length_drop, List.length_take]; rfl)) ?_; (with_reducible refine (window_Look.calls k1 x111000_1 _ _ x111001_1 3 t111 t112 t113 t114 t115 _ ?side1 ?side2 A41.out).mono ?_); (case side1 => repeat (first | exact (Kd.V_reads' HO_111001.out).2.2 | (with_reducible refine Kd.C_alloc ?_ _) | (with_reducible refine Kd.C_drewN ?_ _) | (with_reducible refine Kd.C_drew ?_))); (case side2 => exact (Kd.V_reads' HO_111001.out).2.1); rintro e w74 ⟨rfl, hb⟩; refine ⟨_, rfl, ?_⟩; have n0_ := Aside0.mk (Kd.V_below (by (with_reducible repeat (first | apply Kd.V_alloc | apply Kd.V_drewN | apply Kd.V_drew)); exact HO_111001.out) hb); have n1_ := Aside0.mk (blk_below (g := gb110) (o := .cells #[.int .i64 x111000_1, .slice Ao73 x111001_1.length co73] 24 (0, 0)) (by (with_reducible repeat (first | refine Z3d ?_ _ | refine Z3e ?_ | refine Z3f ?_ _)); exact BK110.out) hb); have n2_ := Aside0.mk (below_step (by repeat (first | (with_reducible first | exact HB.out | apply Z3j | apply Z3h | apply Z3i | refine Z3k ?_ GE110.out) | exact HB.out)) hb); clear HO_111001; clear BK110; clear HB; have HO_111001 := n0_; have BK110 := n1_; have HB := n2_; clear n0_ n1_ n2_; (try clear hb); (try clear hb2); (try clear hk); (try clear hi)) | ((with_reducible refine gate_dst (N := 6) rfl ?_); refine box_event ?hg (N := 6) ?hd (cs := #[.int .i64 0, .int .i64 0, .string (⟨#[]⟩ : ByteArray)]) (t := 27) ?hr ?_; (case hd => rfl); (case hg => rfl); (case hr => first | (go_simp; done) | (go_simp; rfl)); intro gb116 hg w75 hbox hb; have n0_ := Aside0.mk (Kd.V_below (Kd.V_elderB (by (with_reducible repeat (first | apply Kd.V_alloc | apply Kd.V_drewN | apply Kd.V_drew)); exact HO_111001.out) gb116 (Nat.le_of_eq hg.symm)) hb); have n1_ := Aside0.mk (blk_below (g := gb110) (o := .cells #[.int .i64 x111000_1, .slice Ao73 x111001_1.length co73] 24 (0, 0)) (by (with_reducible repeat (first | refine Z3d ?_ _ | refine Z3e ?_ | refine Z3f ?_ _)); exact BK110.out) hb); have n2_ := Aside0.mk (below_step (by repeat (first | (with_reducible first | exact HB.out | apply Z3j | apply Z3h | apply Z3i | refine Z3k ?_ GE110.out) | exact HB.out)) hb); have n3_ := Aside0.mk (hbox); have n4_ := Aside0.mk ((by rw [hg]; exact (below_size (by repeat (first | (with_reducible first | exact HB.out | apply Z3j | apply Z3h | apply Z3i | refine Z3k ?_ GE110.out) | exact HB.out))) : w.heap.size ≤ gb116)); have n5_ := Aside0.mk ((by rw [hg]; exact (below_size (by repeat (first | (with_reducible first | exact HB.out | apply Z3j | apply Z3h | apply Z3i | refine Z3k ?_ GE110.out) | exact HB.out))) : w.heap.size ≤ gb116)); have n6_ := Aside0.mk ((by rw [hg]; exact Nat.ne_of_lt (blk_lt (g := gb110) (o := .cells #[.int .i64 x111000_1, .slice Ao73 x111001_1.length co73] 24 (0, 0)) (by (with_reducible repeat (first | refine Z3d ?_ _ | refine Z3e ?_ | refine Z3f ?_ _)); exact BK110.out)) : gb110 ≠ gb116)); have n7_ := Aside0.mk ((by rw [hg]; exact Nat.ne_of_gt (blk_lt (g := gb110) (o := .cells #[.int .i64 x111000_1, .slice Ao73 x111001_1.length co73] 24 (0, 0)) (by (with_reducible repeat (first | refine Z3d ?_ _ | refine Z3e ?_ | refine Z3f ?_ _)); exact BK110.out)) : gb116 ≠ gb110)); clear HO_111001; clear BK110; clear HB; have HO_111001 := n0_; have BK110 := n1_; have HB := n2_; have BK116 := n3_; have GW116 := n4_; have GE116 := n5_; have NB110_116 := n6_; have NB116_110 := n7_; clear n0_ n1_ n2_ n3_ n4_ n5_ n6_ n7_; clear hb hbox hg; have hnb76 := NB116_110.out; have hnc76 := NB110_116.out; have hcz77_0 : w75.cell? ⟨gb116, 0, none⟩ = some (.int .i64 0) := (Z3l BK116.out 0).trans rfl; have hcz77_1 : w75.cell? ⟨gb116, 1, none⟩ = some (.int .i64 0) := (Z3l BK116.out 1).trans rfl; have hcz77_2 : w75.cell? ⟨gb116, 2, none⟩ = some (.string (⟨#[]⟩ : ByteArray)) := (Z3l BK116.out 2).trans rfl; have hfz77_0 := blk_frozen BK116.out 0; have hfz77_1 := blk_frozen BK116.out 1; have hfz77_2 := blk_frozen BK116.out 2; have hcz78_0 : w75.cell? ⟨gb110, 0, none⟩ = some (.int .i64 x111000_1) := (Z3l BK110.out 0).trans rfl; have hcz78_1 : w75.cell? ⟨gb110, 1, none⟩ = some (.slice Ao73 x111001_1.length co73) := (Z3l BK110.out 1).trans rfl; have hfz78_0 := blk_frozen BK110.out 0; have hfz78_1 := blk_frozen BK110.out 1) | ((with_reducible refine gate_callee (f := 10) rfl ?_); refine goesL_ (some 42) rfl rfl Try.func10 (by kernel_rfl) rfl #[.agg #[.int .i64 x111000_1, .slice Ao73 x111001_1.length co73], .int .i64 4] rfl (by (try simp only [List.map_toArray, List.map_cons, List.map_nil]); first | done | rfl | (simp only [List.length_drop, List.length_take]; rfl)) ?_; (with_reducible refine (window_Look.calls k1 x111000_1 _ _ x111001_1 4 t117 t118 t119 false t121 _ ?side1 ?side2 A42.out).mono ?_); (case side1 => refine (Kd.V_reads' (e := 42) (base := w.heap.size) (ok := fun k_ => (k_ ≠ gb110 ∧ k_ ≠ gb116)) (n := x111001_1.length) (c := co73) ?_).2.2; exact (by (with_reducible repeat (first | apply Kd.V_alloc | apply Kd.V_drewN | apply Kd.V_drew)); exact (Kd.V_mono (Kd.V_far (p := ⟨gb116, 2, none⟩) (Kd.V_far (p := ⟨gb116, 1, none⟩) (Kd.V_far (p := ⟨gb116, 0, none⟩) (Kd.V_mono HO_111001.out (fun k_ hk => (⟨hk, hk.2⟩ : _ ∧ k_ ≠ gb116))) (fun _ hk => hk.2) (.int .i64 t111)) (fun _ hk => hk.2) (.int .i64 t112)) (fun _ hk => hk.2) (.string t113)) (fun _ h_ => h_.1)))); (case side2 => exact (Kd.V_reads' HO_111001.out).2.1); rintro e w79 ⟨rfl, hb⟩; refine ⟨_, rfl, ?_⟩; have n0_ := Aside0.mk (Kd.V_below (by (with_reducible repeat (first | apply Kd.V_alloc | apply Kd.V_drewN | apply Kd.V_drew)); exact (Kd.V_mono (Kd.V_far (p := ⟨gb116, 2, none⟩) (Kd.V_far (p := ⟨gb116, 1, none⟩) (Kd.V_far (p := ⟨gb116, 0, none⟩) (Kd.V_mono HO_111001.out (fun k_ hk => (⟨hk, hk.2⟩ : _ ∧ k_ ≠ gb116))) (fun _ hk => hk.2) (.int .i64 t111)) (fun _ hk => hk.2) (.int .i64 t112)) (fun _ hk => hk.2) (.string t113)) (fun _ h_ => h_.1))) hb); have n1_ := Aside0.mk (blk_below (g := gb110) (o := .cells #[.int .i64 x111000_1, .slice Ao73 x111001_1.length co73] 24 (0, 0)) (by (with_reducible repeat (first | refine Z3d ?_ _ | refine Z3e ?_ | refine Z3f ?_ _)); refine blk_far ?_ NB110_116.out _; (with_reducible repeat (first | refine Z3d ?_ _ | refine Z3e ?_ | refine Z3f ?_ _)); refine blk_far ?_ NB110_116.out _; (with_reducible repeat (first | refine Z3d ?_ _ | refine Z3e ?_ | refine Z3f ?_ _)); refine blk_far ?_ NB110_116.out _; (with_reducible repeat (first | refine Z3d ?_ _ | refine Z3e ?_ | refine Z3f ?_ _)); exact BK110.out) hb); have n2_ := Aside0.mk (blk_below (g := gb116) (o := .cells #[.int .i64 t111, .int .i64 t112, .string t113] 27 (0, 0)) (by (with_reducible repeat (first | refine Z3d ?_ _ | refine Z3e ?_ | refine Z3f ?_ _)); refine blk_put (cs := #[.int .i64 t111, .int .i64 t112, .string (⟨#[]⟩ : ByteArray)]) ?_ 2 _ rfl; (with_reducible repeat (first | refine Z3d ?_ _ | refine Z3e ?_ | refine Z3f ?_ _)); refine blk_put (cs := #[.int .i64 t111, .int .i64 0, .string (⟨#[]⟩ : ByteArray)]) ?_ 1 _ rfl; (with_reducible repeat (first | refine Z3d ?_ _ | refine Z3e ?_ | refine Z3f ?_ _)); refine blk_put (cs := #[.int .i64 0, .int .i64 0, .string (⟨#[]⟩ : ByteArray)]) ?_ 0 _ rfl; (with_reducible repeat (first | refine Z3d ?_ _ | refine Z3e ?_ | refine Z3f ?_ _)); exact BK116.out) hb); have n3_ := Aside0.mk (below_step (by repeat (first | (with_reducible first | exact HB.out | apply Z3j | apply Z3h | apply Z3i | refine Z3k ?_ GE110.out | refine Z3k ?_ GE116.out) | exact HB.out)) hb); clear HO_111001; clear BK110; clear BK116; clear HB; have HO_111001 := n0_; have BK110 := n1_; have BK116 := n2_; have HB := n3_; clear n0_ n1_ n2_ n3_; (try clear hb); (try clear hb2); (try clear hk); (try clear hi)) | ((with_reducible refine gate_dst (N := 9) rfl ?_); refine box_event ?hg (N := 9) ?hd (cs := #[.int .i64 0, .int .i64 0, .string (⟨#[]⟩ : ByteArray)]) (t := 27) ?hr ?_; (case hd => rfl); (case hg => rfl); (case hr => first | (go_simp; done) | (go_simp; rfl)); intro gb122 hg w80 hbox hb; have n0_ := Aside0.mk (Kd.V_below (Kd.V_elderB (by (with_reducible repeat (first | apply Kd.V_alloc | apply Kd.V_drewN | apply Kd.V_drew)); exact HO_111001.out) gb122 (Nat.le_of_eq hg.symm)) hb); have n1_ := Aside0.mk (blk_below (g := gb110) (o := .cells #[.int .i64 x111000_1, .slice Ao73 x111001_1.length co73] 24 (0, 0)) (by (with_reducible repeat (first | refine Z3d ?_ _ | refine Z3e ?_ | refine Z3f ?_ _)); exact BK110.out) hb); have n2_ := Aside0.mk (blk_below (g := gb116) (o := .cells #[.int .i64 t111, .int .i64 t112, .string t113] 27 (0, 0)) (by (with_reducible repeat (first | refine Z3d ?_ _ | refine Z3e ?_ | refine Z3f ?_ _)); exact BK116.out) hb); have n3_ := Aside0.mk (below_step (by repeat (first | (with_reducible first | exact HB.out | apply Z3j | apply Z3h | apply Z3i | refine Z3k ?_ GE110.out | refine Z3k ?_ GE116.out) | exact HB.out)) hb); have n4_ := Aside0.mk (hbox); have n5_ := Aside0.mk ((by rw [hg]; exact (below_size (by repeat (first | (with_reducible first | exact HB.out | apply Z3j | apply Z3h | apply Z3i | refine Z3k ?_ GE110.out | refine Z3k ?_ GE116.out) | exact HB.out))) : w.heap.size ≤ gb122)); have n6_ := Aside0.mk ((by rw [hg]; exact (below_size (by repeat (first | (with_reducible first | exact HB.out | apply Z3j | apply Z3h | apply Z3i | refine Z3k ?_ GE110.out | refine Z3k ?_ GE116.out) | exact HB.out))) : w.heap.size ≤ gb122)); have n7_ := Aside0.mk ((by rw [hg]; exact Nat.ne_of_lt (blk_lt (g := gb110) (o := .cells #[.int .i64 x111000_1, .slice Ao73 x111001_1.length co73] 24 (0, 0)) (by (with_reducible repeat (first | refine Z3d ?_ _ | refine Z3e ?_ | refine Z3f ?_ _)); exact BK110.out)) : gb110 ≠ gb122)); have n8_ := Aside0.mk ((by rw [hg]; exact Nat.ne_of_gt (blk_lt (g := gb110) (o := .cells #[.int .i64 x111000_1, .slice Ao73 x111001_1.length co73] 24 (0, 0)) (by (with_reducible repeat (first | refine Z3d ?_ _ | refine Z3e ?_ | refine Z3f ?_ _)); exact BK110.out)) : gb122 ≠ gb110)); have n9_ := Aside0.mk ((by rw [hg]; exact Nat.ne_of_lt (blk_lt (g := gb116) (o := .cells #[.int .i64 t111, .int .i64 t112, .string t113] 27 (0, 0)) (by (with_reducible repeat (first | refine Z3d ?_ _ | refine Z3e ?_ | refine Z3f ?_ _)); exact BK116.out)) : gb116 ≠ gb122)); have n10_ := Aside0.mk ((by rw [hg]; exact Nat.ne_of_gt (blk_lt (g := gb116) (o := .cells #[.int .i64 t111, .int .i64 t112, .string t113] 27 (0, 0)) (by (with_reducible repeat (first | refine Z3d ?_ _ | refine Z3e ?_ | refine Z3f ?_ _)); exact BK116.out)) : gb122 ≠ gb116)); clear HO_111001; clear BK110; clear BK116; clear HB; have HO_111001 := n0_; have BK110 := n1_; have BK116 := n2_; have HB := n3_; have BK122 := n4_; have GW122 := n5_; have GE122 := n6_; have NB110_122 := n7_; have NB122_110 := n8_; have NB116_122 := n9_; have NB122_116 := n10_; clear n0_ n1_ n2_ n3_ n4_ n5_ n6_ n7_ n8_ n9_ n10_; clear hb hbox hg; have hnb81 := NB122_110.out; have hnc81 := NB110_122.out; have hnb82 := NB122_116.out; have hnc82 := NB116_122.out; have hcz83_0 : w80.cell? ⟨gb122, 0, none⟩ = some (.int .i64 0) := (Z3l BK122.out 0).trans rfl; have hcz83_1 : w80.cell? ⟨gb122, 1, none⟩ = some (.int .i64 0) := (Z3l BK122.out 1).trans rfl; have hcz83_2 : w80.cell? ⟨gb122, 2, none⟩ = some (.string (⟨#[]⟩ : ByteArray)) := (Z3l BK122.out 2).trans rfl; have hfz83_0 := blk_frozen BK122.out 0; have hfz83_1 := blk_frozen BK122.out 1; have hfz83_2 := blk_frozen BK122.out 2))
       go_ret
       exact ⟨by first | rfl | (simp [errW_none, errW_some] <;> rfl) | (simp [*, errW_none, errW_some] <;> rfl), by repeat (first | (with_reducible first | exact HB.out | apply Z3j | apply Z3h | apply Z3i | refine Z3k ?_ GE110.out | refine Z3k ?_ GE116.out | refine Z3k ?_ GE122.out) | exact HB.out)⟩
     ·
      rw [if_neg c44] at H
      have c44b0 : (t121 == 0) = false := beq_eq_false_iff_ne.mpr c44
      have c44b1 : (t121 != 0) = true := bne_iff_ne.mpr c44
      obtain rfl := Option.some.inj H
      have hcz84_0 : wr.cell? ⟨gb110, 0, none⟩ = some (.int .i64 x111000_1) := (Z3l BK110.out 0).trans rfl
      have hcz84_1 : wr.cell? ⟨gb110, 1, none⟩ = some (u111001) := (Z3l BK110.out 1).trans rfl
      have hfz84_0 := blk_frozen BK110.out 0
      have hfz84_1 := blk_frozen BK110.out 1
      obtain ⟨Ao85, co85, eo85⟩ := Kd.V_slice HO_111001.out
      subst eo85
      go_wp2_with (first | ((with_reducible refine gate_callee (f := 10) rfl ?_); refine goesL_ (some 36) rfl rfl Try.func10 (by kernel_rfl) rfl #[.agg #[.int .i64 x111000_1, .slice Ao85 x111001_1.length co85], .int .i64 3] rfl (by (try simp only [List.map_toArray, List.map_cons, List.map_nil]); first | done | rfl | (simp only [List.length_drop, List.length_take]; rfl)) ?_; (with_reducible refine (window_Look.calls k1 x111000_1 _ _ x111001_1 3 t111 t112 t113 t114 t115 _ ?side1 ?side2 A41.out).mono ?_); (case side1 => repeat (first | exact (Kd.V_reads' HO_111001.out).2.2 | (with_reducible refine Kd.C_alloc ?_ _) | (with_reducible refine Kd.C_drewN ?_ _) | (with_reducible refine Kd.C_drew ?_))); (case side2 => exact (Kd.V_reads' HO_111001.out).2.1); rintro e w86 ⟨rfl, hb⟩; refine ⟨_, rfl, ?_⟩; have n0_ := Aside0.mk (Kd.V_below (by (with_reducible repeat (first | apply Kd.V_alloc | apply Kd.V_drewN | apply Kd.V_drew)); exact HO_111001.out) hb); have n1_ := Aside0.mk (blk_below (g := gb110) (o := .cells #[.int .i64 x111000_1, .slice Ao85 x111001_1.length co85] 24 (0, 0)) (by (with_reducible repeat (first | refine Z3d ?_ _ | refine Z3e ?_ | refine Z3f ?_ _)); exact BK110.out) hb); have n2_ := Aside0.mk (below_step (by repeat (first | (with_reducible first | exact HB.out | apply Z3j | apply Z3h | apply Z3i | refine Z3k ?_ GE110.out) | exact HB.out)) hb); clear HO_111001; clear BK110; clear HB; have HO_111001 := n0_; have BK110 := n1_; have HB := n2_; clear n0_ n1_ n2_; (try clear hb); (try clear hb2); (try clear hk); (try clear hi)) | ((with_reducible refine gate_dst (N := 6) rfl ?_); refine box_event ?hg (N := 6) ?hd (cs := #[.int .i64 0, .int .i64 0, .string (⟨#[]⟩ : ByteArray)]) (t := 27) ?hr ?_; (case hd => rfl); (case hg => rfl); (case hr => first | (go_simp; done) | (go_simp; rfl)); intro gb116 hg w87 hbox hb; have n0_ := Aside0.mk (Kd.V_below (Kd.V_elderB (by (with_reducible repeat (first | apply Kd.V_alloc | apply Kd.V_drewN | apply Kd.V_drew)); exact HO_111001.out) gb116 (Nat.le_of_eq hg.symm)) hb); have n1_ := Aside0.mk (blk_below (g := gb110) (o := .cells #[.int .i64 x111000_1, .slice Ao85 x111001_1.length co85] 24 (0, 0)) (by (with_reducible repeat (first | refine Z3d ?_ _ | refine Z3e ?_ | refine Z3f ?_ _)); exact BK110.out) hb); have n2_ := Aside0.mk (below_step (by repeat (first | (with_reducible first | exact HB.out | apply Z3j | apply Z3h | apply Z3i | refine Z3k ?_ GE110.out) | exact HB.out)) hb); have n3_ := Aside0.mk (hbox); have n4_ := Aside0.mk ((by rw [hg]; exact (below_size (by repeat (first | (with_reducible first | exact HB.out | apply Z3j | apply Z3h | apply Z3i | refine Z3k ?_ GE110.out) | exact HB.out))) : w.heap.size ≤ gb116)); have n5_ := Aside0.mk ((by rw [hg]; exact (below_size (by repeat (first | (with_reducible first | exact HB.out | apply Z3j | apply Z3h | apply Z3i | refine Z3k ?_ GE110.out) | exact HB.out))) : w.heap.size ≤ gb116)); have n6_ := Aside0.mk ((by rw [hg]; exact Nat.ne_of_lt (blk_lt (g := gb110) (o := .cells #[.int .i64 x111000_1, .slice Ao85 x111001_1.length co85] 24 (0, 0)) (by (with_reducible repeat (first | refine Z3d ?_ _ | refine Z3e ?_ | refine Z3f ?_ _)); exact BK110.out)) : gb110 ≠ gb116)); have n7_ := Aside0.mk ((by rw [hg]; exact Nat.ne_of_gt (blk_lt (g := gb110) (o := .cells #[.int .i64 x111000_1, .slice Ao85 x111001_1.length co85] 24 (0, 0)) (by (with_reducible repeat (first | refine Z3d ?_ _ | refine Z3e ?_ | refine Z3f ?_ _)); exact BK110.out)) : gb116 ≠ gb110)); clear HO_111001; clear BK110; clear HB; have HO_111001 := n0_; have BK110 := n1_; have HB := n2_; have BK116 := n3_; have GW116 := n4_; have GE116 := n5_; have NB110_116 := n6_; have NB116_110 := n7_; clear n0_ n1_ n2_ n3_ n4_ n5_ n6_ n7_; clear hb hbox hg; have hnb88 := NB116_110.out; have hnc88 := NB110_116.out; have hcz89_0 : w87.cell? ⟨gb116, 0, none⟩ = some (.int .i64 0) := (Z3l BK116.out 0).trans rfl; have hcz89_1 : w87.cell? ⟨gb116, 1, none⟩ = some (.int .i64 0) := (Z3l BK116.out 1).trans rfl; have hcz89_2 : w87.cell? ⟨gb116, 2, none⟩ = some (.string (⟨#[]⟩ : ByteArray)) := (Z3l BK116.out 2).trans rfl; have hfz89_0 := blk_frozen BK116.out 0; have hfz89_1 := blk_frozen BK116.out 1; have hfz89_2 := blk_frozen BK116.out 2; have hcz90_0 : w87.cell? ⟨gb110, 0, none⟩ = some (.int .i64 x111000_1) := (Z3l BK110.out 0).trans rfl; have hcz90_1 : w87.cell? ⟨gb110, 1, none⟩ = some (.slice Ao85 x111001_1.length co85) := (Z3l BK110.out 1).trans rfl; have hfz90_0 := blk_frozen BK110.out 0; have hfz90_1 := blk_frozen BK110.out 1) | ((with_reducible refine gate_callee (f := 10) rfl ?_); refine goesL_ (some 42) rfl rfl Try.func10 (by kernel_rfl) rfl #[.agg #[.int .i64 x111000_1, .slice Ao85 x111001_1.length co85], .int .i64 4] rfl (by (try simp only [List.map_toArray, List.map_cons, List.map_nil]); first | done | rfl | (simp only [List.length_drop, List.length_take]; rfl)) ?_; (with_reducible refine (window_Look.calls k1 x111000_1 _ _ x111001_1 4 t117 t118 t119 t120 t121 _ ?side1 ?side2 A42.out).mono ?_); (case side1 => refine (Kd.V_reads' (e := 42) (base := w.heap.size) (ok := fun k_ => (k_ ≠ gb110 ∧ k_ ≠ gb116)) (n := x111001_1.length) (c := co85) ?_).2.2; exact (by (with_reducible repeat (first | apply Kd.V_alloc | apply Kd.V_drewN | apply Kd.V_drew)); exact (Kd.V_mono (Kd.V_far (p := ⟨gb116, 2, none⟩) (Kd.V_far (p := ⟨gb116, 1, none⟩) (Kd.V_far (p := ⟨gb116, 0, none⟩) (Kd.V_mono HO_111001.out (fun k_ hk => (⟨hk, hk.2⟩ : _ ∧ k_ ≠ gb116))) (fun _ hk => hk.2) (.int .i64 t111)) (fun _ hk => hk.2) (.int .i64 t112)) (fun _ hk => hk.2) (.string t113)) (fun _ h_ => h_.1)))); (case side2 => exact (Kd.V_reads' HO_111001.out).2.1); rintro e w91 ⟨rfl, hb⟩; refine ⟨_, rfl, ?_⟩; have n0_ := Aside0.mk (Kd.V_below (by (with_reducible repeat (first | apply Kd.V_alloc | apply Kd.V_drewN | apply Kd.V_drew)); exact (Kd.V_mono (Kd.V_far (p := ⟨gb116, 2, none⟩) (Kd.V_far (p := ⟨gb116, 1, none⟩) (Kd.V_far (p := ⟨gb116, 0, none⟩) (Kd.V_mono HO_111001.out (fun k_ hk => (⟨hk, hk.2⟩ : _ ∧ k_ ≠ gb116))) (fun _ hk => hk.2) (.int .i64 t111)) (fun _ hk => hk.2) (.int .i64 t112)) (fun _ hk => hk.2) (.string t113)) (fun _ h_ => h_.1))) hb); have n1_ := Aside0.mk (blk_below (g := gb110) (o := .cells #[.int .i64 x111000_1, .slice Ao85 x111001_1.length co85] 24 (0, 0)) (by (with_reducible repeat (first | refine Z3d ?_ _ | refine Z3e ?_ | refine Z3f ?_ _)); refine blk_far ?_ NB110_116.out _; (with_reducible repeat (first | refine Z3d ?_ _ | refine Z3e ?_ | refine Z3f ?_ _)); refine blk_far ?_ NB110_116.out _; (with_reducible repeat (first | refine Z3d ?_ _ | refine Z3e ?_ | refine Z3f ?_ _)); refine blk_far ?_ NB110_116.out _; (with_reducible repeat (first | refine Z3d ?_ _ | refine Z3e ?_ | refine Z3f ?_ _)); exact BK110.out) hb); have n2_ := Aside0.mk (blk_below (g := gb116) (o := .cells #[.int .i64 t111, .int .i64 t112, .string t113] 27 (0, 0)) (by (with_reducible repeat (first | refine Z3d ?_ _ | refine Z3e ?_ | refine Z3f ?_ _)); refine blk_put (cs := #[.int .i64 t111, .int .i64 t112, .string (⟨#[]⟩ : ByteArray)]) ?_ 2 _ rfl; (with_reducible repeat (first | refine Z3d ?_ _ | refine Z3e ?_ | refine Z3f ?_ _)); refine blk_put (cs := #[.int .i64 t111, .int .i64 0, .string (⟨#[]⟩ : ByteArray)]) ?_ 1 _ rfl; (with_reducible repeat (first | refine Z3d ?_ _ | refine Z3e ?_ | refine Z3f ?_ _)); refine blk_put (cs := #[.int .i64 0, .int .i64 0, .string (⟨#[]⟩ : ByteArray)]) ?_ 0 _ rfl; (with_reducible repeat (first | refine Z3d ?_ _ | refine Z3e ?_ | refine Z3f ?_ _)); exact BK116.out) hb); have n3_ := Aside0.mk (below_step (by repeat (first | (with_reducible first | exact HB.out | apply Z3j | apply Z3h | apply Z3i | refine Z3k ?_ GE110.out | refine Z3k ?_ GE116.out) | exact HB.out)) hb); clear HO_111001; clear BK110; clear BK116; clear HB; have HO_111001 := n0_; have BK110 := n1_; have BK116 := n2_; have HB := n3_; clear n0_ n1_ n2_ n3_; (try clear hb); (try clear hb2); (try clear hk); (try clear hi)) | ((with_reducible refine gate_dst (N := 9) rfl ?_); refine box_event ?hg (N := 9) ?hd (cs := #[.int .i64 0, .int .i64 0, .string (⟨#[]⟩ : ByteArray)]) (t := 27) ?hr ?_; (case hd => rfl); (case hg => rfl); (case hr => first | (go_simp; done) | (go_simp; rfl)); intro gb122 hg w92 hbox hb; have n0_ := Aside0.mk (Kd.V_below (Kd.V_elderB (by (with_reducible repeat (first | apply Kd.V_alloc | apply Kd.V_drewN | apply Kd.V_drew)); exact HO_111001.out) gb122 (Nat.le_of_eq hg.symm)) hb); have n1_ := Aside0.mk (blk_below (g := gb110) (o := .cells #[.int .i64 x111000_1, .slice Ao85 x111001_1.length co85] 24 (0, 0)) (by (with_reducible repeat (first | refine Z3d ?_ _ | refine Z3e ?_ | refine Z3f ?_ _)); exact BK110.out) hb); have n2_ := Aside0.mk (blk_below (g := gb116) (o := .cells #[.int .i64 t111, .int .i64 t112, .string t113] 27 (0, 0)) (by (with_reducible repeat (first | refine Z3d ?_ _ | refine Z3e ?_ | refine Z3f ?_ _)); exact BK116.out) hb); have n3_ := Aside0.mk (below_step (by repeat (first | (with_reducible first | exact HB.out | apply Z3j | apply Z3h | apply Z3i | refine Z3k ?_ GE110.out | refine Z3k ?_ GE116.out) | exact HB.out)) hb); have n4_ := Aside0.mk (hbox); have n5_ := Aside0.mk ((by rw [hg]; exact (below_size (by repeat (first | (with_reducible first | exact HB.out | apply Z3j | apply Z3h | apply Z3i | refine Z3k ?_ GE110.out | refine Z3k ?_ GE116.out) | exact HB.out))) : w.heap.size ≤ gb122)); have n6_ := Aside0.mk ((by rw [hg]; exact (below_size (by repeat (first | (with_reducible first | exact HB.out | apply Z3j | apply Z3h | apply Z3i | refine Z3k ?_ GE110.out | refine Z3k ?_ GE116.out) | exact HB.out))) : w.heap.size ≤ gb122)); have n7_ := Aside0.mk ((by rw [hg]; exact Nat.ne_of_lt (blk_lt (g := gb110) (o := .cells #[.int .i64 x111000_1, .slice Ao85 x111001_1.length co85] 24 (0, 0)) (by (with_reducible repeat (first | refine Z3d ?_ _ | refine Z3e ?_ | refine Z3f ?_ _)); exact BK110.out)) : gb110 ≠ gb122)); have n8_ := Aside0.mk ((by rw [hg]; exact Nat.ne_of_gt (blk_lt (g := gb110) (o := .cells #[.int .i64 x111000_1, .slice Ao85 x111001_1.length co85] 24 (0, 0)) (by (with_reducible repeat (first | refine Z3d ?_ _ | refine Z3e ?_ | refine Z3f ?_ _)); exact BK110.out)) : gb122 ≠ gb110)); have n9_ := Aside0.mk ((by rw [hg]; exact Nat.ne_of_lt (blk_lt (g := gb116) (o := .cells #[.int .i64 t111, .int .i64 t112, .string t113] 27 (0, 0)) (by (with_reducible repeat (first | refine Z3d ?_ _ | refine Z3e ?_ | refine Z3f ?_ _)); exact BK116.out)) : gb116 ≠ gb122)); have n10_ := Aside0.mk ((by rw [hg]; exact Nat.ne_of_gt (blk_lt (g := gb116) (o := .cells #[.int .i64 t111, .int .i64 t112, .string t113] 27 (0, 0)) (by (with_reducible repeat (first | refine Z3d ?_ _ | refine Z3e ?_ | refine Z3f ?_ _)); exact BK116.out)) : gb122 ≠ gb116)); clear HO_111001; clear BK110; clear BK116; clear HB; have HO_111001 := n0_; have BK110 := n1_; have BK116 := n2_; have HB := n3_; have BK122 := n4_; have GW122 := n5_; have GE122 := n6_; have NB110_122 := n7_; have NB122_110 := n8_; have NB116_122 := n9_; have NB122_116 := n10_; clear n0_ n1_ n2_ n3_ n4_ n5_ n6_ n7_ n8_ n9_ n10_; clear hb hbox hg; have hnb93 := NB122_110.out; have hnc93 := NB110_122.out; have hnb94 := NB122_116.out; have hnc94 := NB116_122.out; have hcz95_0 : w92.cell? ⟨gb122, 0, none⟩ = some (.int .i64 0) := (Z3l BK122.out 0).trans rfl; have hcz95_1 : w92.cell? ⟨gb122, 1, none⟩ = some (.int .i64 0) := (Z3l BK122.out 1).trans rfl; have hcz95_2 : w92.cell? ⟨gb122, 2, none⟩ = some (.string (⟨#[]⟩ : ByteArray)) := (Z3l BK122.out 2).trans rfl; have hfz95_0 := blk_frozen BK122.out 0; have hfz95_1 := blk_frozen BK122.out 1; have hfz95_2 := blk_frozen BK122.out 2))
      go_ret
      exact ⟨by first | rfl | (simp [errW_none, errW_some] <;> rfl) | (simp [*, errW_none, errW_some] <;> rfl), by repeat (first | (with_reducible first | exact HB.out | apply Z3j | apply Z3h | apply Z3i | refine Z3k ?_ GE110.out | refine Z3k ?_ GE116.out | refine Z3k ?_ GE122.out) | exact HB.out)⟩
    ·
     rw [if_neg c43] at H
     have c43b0 : (t115 == 9) = false := beq_eq_false_iff_ne.mpr c43
     have c43b1 : (t115 != 9) = true := bne_iff_ne.mpr c43
     obtain rfl := Option.some.inj H
     have hcz96_0 : wr.cell? ⟨gb110, 0, none⟩ = some (.int .i64 x111000_1) := (Z3l BK110.out 0).trans rfl
     have hcz96_1 : wr.cell? ⟨gb110, 1, none⟩ = some (u111001) := (Z3l BK110.out 1).trans rfl
     have hfz96_0 := blk_frozen BK110.out 0
     have hfz96_1 := blk_frozen BK110.out 1
     obtain ⟨Ao97, co97, eo97⟩ := Kd.V_slice HO_111001.out
     subst eo97
     go_wp2_with (first | ((with_reducible refine gate_callee (f := 10) rfl ?_); refine goesL_ (some 36) rfl rfl Try.func10 (by kernel_rfl) rfl #[.agg #[.int .i64 x111000_1, .slice Ao97 x111001_1.length co97], .int .i64 3] rfl (by (try simp only [List.map_toArray, List.map_cons, List.map_nil]); first | done | rfl | (simp only [List.length_drop, List.length_take]; rfl)) ?_; (with_reducible refine (window_Look.calls k1 x111000_1 _ _ x111001_1 3 t111 t112 t113 t114 t115 _ ?side1 ?side2 A41.out).mono ?_); (case side1 => repeat (first | exact (Kd.V_reads' HO_111001.out).2.2 | (with_reducible refine Kd.C_alloc ?_ _) | (with_reducible refine Kd.C_drewN ?_ _) | (with_reducible refine Kd.C_drew ?_))); (case side2 => exact (Kd.V_reads' HO_111001.out).2.1); rintro e w98 ⟨rfl, hb⟩; refine ⟨_, rfl, ?_⟩; have n0_ := Aside0.mk (Kd.V_below (by (with_reducible repeat (first | apply Kd.V_alloc | apply Kd.V_drewN | apply Kd.V_drew)); exact HO_111001.out) hb); have n1_ := Aside0.mk (blk_below (g := gb110) (o := .cells #[.int .i64 x111000_1, .slice Ao97 x111001_1.length co97] 24 (0, 0)) (by (with_reducible repeat (first | refine Z3d ?_ _ | refine Z3e ?_ | refine Z3f ?_ _)); exact BK110.out) hb); have n2_ := Aside0.mk (below_step (by repeat (first | (with_reducible first | exact HB.out | apply Z3j | apply Z3h | apply Z3i | refine Z3k ?_ GE110.out) | exact HB.out)) hb); clear HO_111001; clear BK110; clear HB; have HO_111001 := n0_; have BK110 := n1_; have HB := n2_; clear n0_ n1_ n2_; (try clear hb); (try clear hb2); (try clear hk); (try clear hi)) | ((with_reducible refine gate_dst (N := 6) rfl ?_); refine box_event ?hg (N := 6) ?hd (cs := #[.int .i64 0, .int .i64 0, .string (⟨#[]⟩ : ByteArray)]) (t := 27) ?hr ?_; (case hd => rfl); (case hg => rfl); (case hr => first | (go_simp; done) | (go_simp; rfl)); intro gb116 hg w99 hbox hb; have n0_ := Aside0.mk (Kd.V_below (Kd.V_elderB (by (with_reducible repeat (first | apply Kd.V_alloc | apply Kd.V_drewN | apply Kd.V_drew)); exact HO_111001.out) gb116 (Nat.le_of_eq hg.symm)) hb); have n1_ := Aside0.mk (blk_below (g := gb110) (o := .cells #[.int .i64 x111000_1, .slice Ao97 x111001_1.length co97] 24 (0, 0)) (by (with_reducible repeat (first | refine Z3d ?_ _ | refine Z3e ?_ | refine Z3f ?_ _)); exact BK110.out) hb); have n2_ := Aside0.mk (below_step (by repeat (first | (with_reducible first | exact HB.out | apply Z3j | apply Z3h | apply Z3i | refine Z3k ?_ GE110.out) | exact HB.out)) hb); have n3_ := Aside0.mk (hbox); have n4_ := Aside0.mk ((by rw [hg]; exact (below_size (by repeat (first | (with_reducible first | exact HB.out | apply Z3j | apply Z3h | apply Z3i | refine Z3k ?_ GE110.out) | exact HB.out))) : w.heap.size ≤ gb116)); have n5_ := Aside0.mk ((by rw [hg]; exact (below_size (by repeat (first | (with_reducible first | exact HB.out | apply Z3j | apply Z3h | apply Z3i | refine Z3k ?_ GE110.out) | exact HB.out))) : w.heap.size ≤ gb116)); have n6_ := Aside0.mk ((by rw [hg]; exact Nat.ne_of_lt (blk_lt (g := gb110) (o := .cells #[.int .i64 x111000_1, .slice Ao97 x111001_1.length co97] 24 (0, 0)) (by (with_reducible repeat (first | refine Z3d ?_ _ | refine Z3e ?_ | refine Z3f ?_ _)); exact BK110.out)) : gb110 ≠ gb116)); have n7_ := Aside0.mk ((by rw [hg]; exact Nat.ne_of_gt (blk_lt (g := gb110) (o := .cells #[.int .i64 x111000_1, .slice Ao97 x111001_1.length co97] 24 (0, 0)) (by (with_reducible repeat (first | refine Z3d ?_ _ | refine Z3e ?_ | refine Z3f ?_ _)); exact BK110.out)) : gb116 ≠ gb110)); clear HO_111001; clear BK110; clear HB; have HO_111001 := n0_; have BK110 := n1_; have HB := n2_; have BK116 := n3_; have GW116 := n4_; have GE116 := n5_; have NB110_116 := n6_; have NB116_110 := n7_; clear n0_ n1_ n2_ n3_ n4_ n5_ n6_ n7_; clear hb hbox hg; have hnb100 := NB116_110.out; have hnc100 := NB110_116.out; have hcz101_0 : w99.cell? ⟨gb116, 0, none⟩ = some (.int .i64 0) := (Z3l BK116.out 0).trans rfl; have hcz101_1 : w99.cell? ⟨gb116, 1, none⟩ = some (.int .i64 0) := (Z3l BK116.out 1).trans rfl; have hcz101_2 : w99.cell? ⟨gb116, 2, none⟩ = some (.string (⟨#[]⟩ : ByteArray)) := (Z3l BK116.out 2).trans rfl; have hfz101_0 := blk_frozen BK116.out 0; have hfz101_1 := blk_frozen BK116.out 1; have hfz101_2 := blk_frozen BK116.out 2; have hcz102_0 : w99.cell? ⟨gb110, 0, none⟩ = some (.int .i64 x111000_1) := (Z3l BK110.out 0).trans rfl; have hcz102_1 : w99.cell? ⟨gb110, 1, none⟩ = some (.slice Ao97 x111001_1.length co97) := (Z3l BK110.out 1).trans rfl; have hfz102_0 := blk_frozen BK110.out 0; have hfz102_1 := blk_frozen BK110.out 1) | ((with_reducible refine gate_callee (f := 10) rfl ?_); refine goesL_ (some 42) rfl rfl Try.func10 (by kernel_rfl) rfl #[.agg #[.int .i64 x111000_1, .slice Ao97 x111001_1.length co97], .int .i64 4] rfl (by (try simp only [List.map_toArray, List.map_cons, List.map_nil]); first | done | rfl | (simp only [List.length_drop, List.length_take]; rfl)) ?_; (with_reducible refine (window_Look.calls k1 x111000_1 _ _ x111001_1 4 t117 t118 t119 t120 t121 _ ?side1 ?side2 A42.out).mono ?_); (case side1 => refine (Kd.V_reads' (e := 42) (base := w.heap.size) (ok := fun k_ => (k_ ≠ gb110 ∧ k_ ≠ gb116)) (n := x111001_1.length) (c := co97) ?_).2.2; exact (by (with_reducible repeat (first | apply Kd.V_alloc | apply Kd.V_drewN | apply Kd.V_drew)); exact (Kd.V_mono (Kd.V_far (p := ⟨gb116, 2, none⟩) (Kd.V_far (p := ⟨gb116, 1, none⟩) (Kd.V_far (p := ⟨gb116, 0, none⟩) (Kd.V_mono HO_111001.out (fun k_ hk => (⟨hk, hk.2⟩ : _ ∧ k_ ≠ gb116))) (fun _ hk => hk.2) (.int .i64 t111)) (fun _ hk => hk.2) (.int .i64 t112)) (fun _ hk => hk.2) (.string t113)) (fun _ h_ => h_.1)))); (case side2 => exact (Kd.V_reads' HO_111001.out).2.1); rintro e w103 ⟨rfl, hb⟩; refine ⟨_, rfl, ?_⟩; have n0_ := Aside0.mk (Kd.V_below (by (with_reducible repeat (first | apply Kd.V_alloc | apply Kd.V_drewN | apply Kd.V_drew)); exact (Kd.V_mono (Kd.V_far (p := ⟨gb116, 2, none⟩) (Kd.V_far (p := ⟨gb116, 1, none⟩) (Kd.V_far (p := ⟨gb116, 0, none⟩) (Kd.V_mono HO_111001.out (fun k_ hk => (⟨hk, hk.2⟩ : _ ∧ k_ ≠ gb116))) (fun _ hk => hk.2) (.int .i64 t111)) (fun _ hk => hk.2) (.int .i64 t112)) (fun _ hk => hk.2) (.string t113)) (fun _ h_ => h_.1))) hb); have n1_ := Aside0.mk (blk_below (g := gb110) (o := .cells #[.int .i64 x111000_1, .slice Ao97 x111001_1.length co97] 24 (0, 0)) (by (with_reducible repeat (first | refine Z3d ?_ _ | refine Z3e ?_ | refine Z3f ?_ _)); refine blk_far ?_ NB110_116.out _; (with_reducible repeat (first | refine Z3d ?_ _ | refine Z3e ?_ | refine Z3f ?_ _)); refine blk_far ?_ NB110_116.out _; (with_reducible repeat (first | refine Z3d ?_ _ | refine Z3e ?_ | refine Z3f ?_ _)); refine blk_far ?_ NB110_116.out _; (with_reducible repeat (first | refine Z3d ?_ _ | refine Z3e ?_ | refine Z3f ?_ _)); exact BK110.out) hb); have n2_ := Aside0.mk (blk_below (g := gb116) (o := .cells #[.int .i64 t111, .int .i64 t112, .string t113] 27 (0, 0)) (by (with_reducible repeat (first | refine Z3d ?_ _ | refine Z3e ?_ | refine Z3f ?_ _)); refine blk_put (cs := #[.int .i64 t111, .int .i64 t112, .string (⟨#[]⟩ : ByteArray)]) ?_ 2 _ rfl; (with_reducible repeat (first | refine Z3d ?_ _ | refine Z3e ?_ | refine Z3f ?_ _)); refine blk_put (cs := #[.int .i64 t111, .int .i64 0, .string (⟨#[]⟩ : ByteArray)]) ?_ 1 _ rfl; (with_reducible repeat (first | refine Z3d ?_ _ | refine Z3e ?_ | refine Z3f ?_ _)); refine blk_put (cs := #[.int .i64 0, .int .i64 0, .string (⟨#[]⟩ : ByteArray)]) ?_ 0 _ rfl; (with_reducible repeat (first | refine Z3d ?_ _ | refine Z3e ?_ | refine Z3f ?_ _)); exact BK116.out) hb); have n3_ := Aside0.mk (below_step (by repeat (first | (with_reducible first | exact HB.out | apply Z3j | apply Z3h | apply Z3i | refine Z3k ?_ GE110.out | refine Z3k ?_ GE116.out) | exact HB.out)) hb); clear HO_111001; clear BK110; clear BK116; clear HB; have HO_111001 := n0_; have BK110 := n1_; have BK116 := n2_; have HB := n3_; clear n0_ n1_ n2_ n3_; (try clear hb); (try clear hb2); (try clear hk); (try clear hi)) | ((with_reducible refine gate_dst (N := 9) rfl ?_); refine box_event ?hg (N := 9) ?hd (cs := #[.int .i64 0, .int .i64 0, .string (⟨#[]⟩ : ByteArray)]) (t := 27) ?hr ?_; (case hd => rfl); (case hg => rfl); (case hr => first | (go_simp; done) | (go_simp; rfl)); intro gb122 hg w104 hbox hb; have n0_ := Aside0.mk (Kd.V_below (Kd.V_elderB (by (with_reducible repeat (first | apply Kd.V_alloc | apply Kd.V_drewN | apply Kd.V_drew)); exact HO_111001.out) gb122 (Nat.le_of_eq hg.symm)) hb); have n1_ := Aside0.mk (blk_below (g := gb110) (o := .cells #[.int .i64 x111000_1, .slice Ao97 x111001_1.length co97] 24 (0, 0)) (by (with_reducible repeat (first | refine Z3d ?_ _ | refine Z3e ?_ | refine Z3f ?_ _)); exact BK110.out) hb); have n2_ := Aside0.mk (blk_below (g := gb116) (o := .cells #[.int .i64 t111, .int .i64 t112, .string t113] 27 (0, 0)) (by (with_reducible repeat (first | refine Z3d ?_ _ | refine Z3e ?_ | refine Z3f ?_ _)); exact BK116.out) hb); have n3_ := Aside0.mk (below_step (by repeat (first | (with_reducible first | exact HB.out | apply Z3j | apply Z3h | apply Z3i | refine Z3k ?_ GE110.out | refine Z3k ?_ GE116.out) | exact HB.out)) hb); have n4_ := Aside0.mk (hbox); have n5_ := Aside0.mk ((by rw [hg]; exact (below_size (by repeat (first | (with_reducible first | exact HB.out | apply Z3j | apply Z3h | apply Z3i | refine Z3k ?_ GE110.out | refine Z3k ?_ GE116.out) | exact HB.out))) : w.heap.size ≤ gb122)); have n6_ := Aside0.mk ((by rw [hg]; exact (below_size (by repeat (first | (with_reducible first | exact HB.out | apply Z3j | apply Z3h | apply Z3i | refine Z3k ?_ GE110.out | refine Z3k ?_ GE116.out) | exact HB.out))) : w.heap.size ≤ gb122)); have n7_ := Aside0.mk ((by rw [hg]; exact Nat.ne_of_lt (blk_lt (g := gb110) (o := .cells #[.int .i64 x111000_1, .slice Ao97 x111001_1.length co97] 24 (0, 0)) (by (with_reducible repeat (first | refine Z3d ?_ _ | refine Z3e ?_ | refine Z3f ?_ _)); exact BK110.out)) : gb110 ≠ gb122)); have n8_ := Aside0.mk ((by rw [hg]; exact Nat.ne_of_gt (blk_lt (g := gb110) (o := .cells #[.int .i64 x111000_1, .slice Ao97 x111001_1.length co97] 24 (0, 0)) (by (with_reducible repeat (first | refine Z3d ?_ _ | refine Z3e ?_ | refine Z3f ?_ _)); exact BK110.out)) : gb122 ≠ gb110)); have n9_ := Aside0.mk ((by rw [hg]; exact Nat.ne_of_lt (blk_lt (g := gb116) (o := .cells #[.int .i64 t111, .int .i64 t112, .string t113] 27 (0, 0)) (by (with_reducible repeat (first | refine Z3d ?_ _ | refine Z3e ?_ | refine Z3f ?_ _)); exact BK116.out)) : gb116 ≠ gb122)); have n10_ := Aside0.mk ((by rw [hg]; exact Nat.ne_of_gt (blk_lt (g := gb116) (o := .cells #[.int .i64 t111, .int .i64 t112, .string t113] 27 (0, 0)) (by (with_reducible repeat (first | refine Z3d ?_ _ | refine Z3e ?_ | refine Z3f ?_ _)); exact BK116.out)) : gb122 ≠ gb116)); clear HO_111001; clear BK110; clear BK116; clear HB; have HO_111001 := n0_; have BK110 := n1_; have BK116 := n2_; have HB := n3_; have BK122 := n4_; have GW122 := n5_; have GE122 := n6_; have NB110_122 := n7_; have NB122_110 := n8_; have NB116_122 := n9_; have NB122_116 := n10_; clear n0_ n1_ n2_ n3_ n4_ n5_ n6_ n7_ n8_ n9_ n10_; clear hb hbox hg; have hnb105 := NB122_110.out; have hnc105 := NB110_122.out; have hnb106 := NB122_116.out; have hnc106 := NB116_122.out; have hcz107_0 : w104.cell? ⟨gb122, 0, none⟩ = some (.int .i64 0) := (Z3l BK122.out 0).trans rfl; have hcz107_1 : w104.cell? ⟨gb122, 1, none⟩ = some (.int .i64 0) := (Z3l BK122.out 1).trans rfl; have hcz107_2 : w104.cell? ⟨gb122, 2, none⟩ = some (.string (⟨#[]⟩ : ByteArray)) := (Z3l BK122.out 2).trans rfl; have hfz107_0 := blk_frozen BK122.out 0; have hfz107_1 := blk_frozen BK122.out 1; have hfz107_2 := blk_frozen BK122.out 2))
     go_ret
     exact ⟨by first | rfl | (simp [errW_none, errW_some] <;> rfl) | (simp [*, errW_none, errW_some] <;> rfl), by repeat (first | (with_reducible first | exact HB.out | apply Z3j | apply Z3h | apply Z3i | refine Z3k ?_ GE110.out | refine Z3k ?_ GE116.out | refine Z3k ?_ GE122.out) | exact HB.out)⟩

/-! ### colloquylaw17_Few: function 9 -/
def colloquylaw17_Few.f (a0_0 : Int) (l0_1 : List (S42)) : Option (Bool) := some (decide ((l0_1.length : Int) ≤ 50))
set_option maxHeartbeats 8000000 in
set_option maxRecDepth 100000 in
theorem colloquylaw17_Few.calls (a0_0 : Int) (A0_1 : Option Addr) (c0_1 : Nat) (l0_1 : List (S42)) (r : Bool) (w : World) (hr0_1 : Kd.C k42 w A0_1 l0_1.length l0_1) (hc0_1 : l0_1.length ≤ c0_1) (h : colloquylaw17_Few.f a0_0 l0_1 = some r) :
 Calls Try.prog 9 #[.agg #[.int .i64 a0_0, .slice A0_1 l0_1.length c0_1]] w fun e w' => e = .returned (.bool r) ∧ Below w.heap.size w w' := by
 have hu24 := Try.underlying24
 have HR0_1 := Aside0.mk hr0_1
 have HC0_1 := Aside0.mk hc0_1
 clear hr0_1 hc0_1
 have HB := Aside0.mk (Below.refl w.heap.size w)
 have H : (some (decide ((l0_1.length : Int) ≤ 50))) = some r := h
 clear h
 obtain rfl := Option.some.inj H
 go_enter Try.func9, Try.ntmps9
 go_wp2_with (first | ((with_reducible refine gate_dst (N := 1) rfl ?_); refine box_event ?hg (N := 1) ?hd (cs := #[.int .i64 a0_0, .slice A0_1 l0_1.length c0_1]) (t := 24) ?hr ?_; (case hd => rfl); (case hg => rfl); (case hr => first | (go_simp; done) | (go_simp; rfl)); intro gb135 hg w2 hbox hb; have n0_ := Aside0.mk (below_step (by repeat (first | (with_reducible first | exact HB.out | apply Z3j | apply Z3h | apply Z3i) | exact HB.out)) hb); have n1_ := Aside0.mk (hbox); have n2_ := Aside0.mk ((by rw [hg]; exact (below_size (by repeat (first | (with_reducible first | exact HB.out | apply Z3j | apply Z3h | apply Z3i) | exact HB.out))) : w.heap.size ≤ gb135)); have n3_ := Aside0.mk ((by rw [hg]; exact (below_size (by repeat (first | (with_reducible first | exact HB.out | apply Z3j | apply Z3h | apply Z3i) | exact HB.out))) : w.heap.size ≤ gb135)); clear HB; have HB := n0_; have BK135 := n1_; have GW135 := n2_; have GE135 := n3_; clear n0_ n1_ n2_ n3_; clear hb hbox hg; have hcz3_0 : w2.cell? ⟨gb135, 0, none⟩ = some (.int .i64 a0_0) := (Z3l BK135.out 0).trans rfl; have hcz3_1 : w2.cell? ⟨gb135, 1, none⟩ = some (.slice A0_1 l0_1.length c0_1) := (Z3l BK135.out 1).trans rfl; have hfz3_0 := blk_frozen BK135.out 0; have hfz3_1 := blk_frozen BK135.out 1))
 go_ret
 exact ⟨by first | rfl | (simp [errW_none, errW_some] <;> rfl) | (simp [*, errW_none, errW_some] <;> rfl), by repeat (first | (with_reducible first | exact HB.out | apply Z3j | apply Z3h | apply Z3i | refine Z3k ?_ GE135.out) | exact HB.out)⟩

/-! ### colloquyref17_May: function 16 -/
mutual
def colloquyref17_May.j0 : Nat → Bool → Int → List (S42) → Option (Bool)
 | 0, _, _, _ => none
 | k + 1, x18, x137000, x137001 => if x18 = true then (some false) else (colloquyref17_May.l0 k x137000 0 x137000 x137001)
def colloquyref17_May.l0 : Nat → Int → Int → Int → List (S42) → Option (Bool)
 | 0, _, _, _, _ => none
 | k + 1, x3, x4, x137000, x137001 => if x4 < (x137001.length : Int) then (if 0 ≤ x4 then (if ((rd_T42 x137001 x4).f0) ≤ x3 then (some false) else (if ((rd_T42 x137001 x4).f0) > 1073741824 then (some false) else (colloquyref17_May.l0 k ((rd_T42 x137001 x4).f0) (wrap64 (x4 + 1)) x137000 x137001))) else (none)) else (some true)
end
def colloquyref17_May.f (k : Nat) (a0_0 : Int) (l0_1 : List (S42)) : Option (Bool) := if a0_0 < 0 then (colloquyref17_May.j0 k true a0_0 l0_1) else (if a0_0 > 1073741824 then (colloquyref17_May.j0 k true a0_0 l0_1) else (colloquyref17_May.j0 k (decide ((l0_1.length : Int) > 8)) a0_0 l0_1))
theorem colloquyref17_May.mono_l : ∀ k, (∀ y0 y1 y2, LeO (colloquyref17_May.j0 k y0 y1 y2) (colloquyref17_May.j0 (k + 1) y0 y1 y2)) ∧ (∀ y0 y1 y2 y3, LeO (colloquyref17_May.l0 k y0 y1 y2 y3) (colloquyref17_May.l0 (k + 1) y0 y1 y2 y3))
 | 0 => ⟨fun _ _ _ r h => by simp [colloquyref17_May.j0] at h, fun _ _ _ _ r h => by simp [colloquyref17_May.l0] at h⟩
 | k + 1 => by
  obtain ⟨ih0, ih1⟩ := colloquyref17_May.mono_l k
  refine ⟨?_, ?_⟩
  ·
   intro y0 y1 y2
   unfold colloquyref17_May.j0
   repeat' first
   | (with_reducible exact ih0 _ _ _)
   | (with_reducible exact ih1 _ _ _ _)
   | (with_reducible exact LeO.refl _)
   | (with_reducible exact LeO.none _)
   | (with_reducible refine LeO.ite ?_ ?_)
   | (with_reducible refine LeO.bind ?_ (fun _ => ?_))
   | exact ih0 _ _ _
   | exact ih1 _ _ _ _
   | exact LeO.none _
   | refine LeO.ite ?_ ?_
   | refine LeO.bind ?_ (fun _ => ?_)
  ·
   intro y0 y1 y2 y3
   unfold colloquyref17_May.l0
   repeat' first
   | (with_reducible exact ih0 _ _ _)
   | (with_reducible exact ih1 _ _ _ _)
   | (with_reducible exact LeO.refl _)
   | (with_reducible exact LeO.none _)
   | (with_reducible refine LeO.ite ?_ ?_)
   | (with_reducible refine LeO.bind ?_ (fun _ => ?_))
   | exact ih0 _ _ _
   | exact ih1 _ _ _ _
   | exact LeO.none _
   | refine LeO.ite ?_ ?_
   | refine LeO.bind ?_ (fun _ => ?_)
theorem colloquyref17_May.mono : ∀ a0 a1 k, LeO (colloquyref17_May.f k a0 a1) (colloquyref17_May.f (k + 1) a0 a1) := by
 intro a0 a1 k
 obtain ⟨ih0, ih1⟩ := colloquyref17_May.mono_l k
 unfold colloquyref17_May.f
 repeat' first
  | (with_reducible exact ih0 _ _ _)
  | (with_reducible exact ih1 _ _ _ _)
  | (with_reducible exact LeO.refl _)
  | (with_reducible exact LeO.none _)
  | (with_reducible refine LeO.ite ?_ ?_)
  | (with_reducible refine LeO.bind ?_ (fun _ => ?_))
  | exact ih0 _ _ _
  | exact ih1 _ _ _ _
  | exact LeO.none _
  | refine LeO.ite ?_ ?_
  | refine LeO.bind ?_ (fun _ => ?_)
set_option maxHeartbeats 8000000 in
set_option maxRecDepth 100000 in
theorem colloquyref17_May.calls (k : Nat) (a0_0 : Int) (A0_1 : Option Addr) (c0_1 : Nat) (l0_1 : List (S42)) (r : Bool) (w : World) (hr0_1 : Kd.C k42 w A0_1 l0_1.length l0_1) (hc0_1 : l0_1.length ≤ c0_1) (h : colloquyref17_May.f k a0_0 l0_1 = some r) :
 Calls Try.prog 16 #[.agg #[.int .i64 a0_0, .slice A0_1 l0_1.length c0_1]] w fun e w' => e = .returned (.bool r) ∧ Below w.heap.size w w' := by
 have hu24 := Try.underlying24
 have HR0_1 := Aside0.mk hr0_1
 have HC0_1 := Aside0.mk hc0_1
 clear hr0_1 hc0_1
 have HB := Aside0.mk (Below.refl w.heap.size w)
 have H : (if a0_0 < 0 then (colloquyref17_May.j0 k true a0_0 l0_1) else (if a0_0 > 1073741824 then (colloquyref17_May.j0 k true a0_0 l0_1) else (colloquyref17_May.j0 k (decide ((l0_1.length : Int) > 8)) a0_0 l0_1))) = some r := h
 clear h
 have HC2 := Aside0.mk H
 clear H
 go_enter Try.func16, Try.ntmps16
 go_upto_region 1 with (first | ((with_reducible refine gate_dst (N := 1) rfl ?_); (try (refine gate_guard (by rfl) ?_; dsimp only)); refine box_event ?hg (N := 1) ?hd (cs := #[.int .i64 a0_0, .slice A0_1 l0_1.length c0_1]) (t := 24) ?hr ?_; (case hd => rfl); (case hg => rfl); (case hr => first | (go_simp; done) | (go_simp; rfl)); intro gb136 hg w3 hbox hb; have n0_ := Aside0.mk (below_step (by repeat (first | (with_reducible first | exact HB.out | apply Z3j | apply Z3h | apply Z3i) | exact HB.out)) hb); have n1_ := Aside0.mk (hbox); have n2_ := Aside0.mk ((by rw [hg]; exact (below_size (by repeat (first | (with_reducible first | exact HB.out | apply Z3j | apply Z3h | apply Z3i) | exact HB.out))) : w.heap.size ≤ gb136)); have n3_ := Aside0.mk ((by rw [hg]; exact (below_size (by repeat (first | (with_reducible first | exact HB.out | apply Z3j | apply Z3h | apply Z3i) | exact HB.out))) : w.heap.size ≤ gb136)); clear HB; have HB := n0_; have BK136 := n1_; have GW136 := n2_; have GE136 := n3_; clear n0_ n1_ n2_ n3_; clear hb hbox hg))
 (try simp only [Act.put, List.setIfInBounds_toArray, List.set_cons_zero, List.set_cons_succ])
 go_cut [18] (fun v18 wc => ∃ (kq : Nat) (x18_1 : Bool), v18 = .bool x18_1 ∧ Aside0 (colloquyref17_May.j0 kq x18_1 a0_0 l0_1 = some r) ∧ Aside0 (kq ≤ k) ∧ Aside0 (wc.heap[gb136]? = some (.cells #[.int .i64 a0_0, (.slice A0_1 l0_1.length c0_1)] 24 (0, 0))) ∧ Aside0 (Below w.heap.size w wc))
 case first =>
  have H := HC2.out
  clear HC2
  by_cases c4 : a0_0 < 0
  ·
   rw [if_pos c4] at H
   have c4b0 : decide (a0_0 < 0) = true := decide_eq_true c4
   clear c4
   (first | rw [c4b0] | (simp only [i64_w, i32_w]; rw [c4b0]) | skip)
   have H' := Aside0.mk H
   clear H
   have hcz5_0 : w3.cell? ⟨gb136, 0, none⟩ = some (.int .i64 a0_0) := (Z3l BK136.out 0).trans rfl
   have hcz5_1 : w3.cell? ⟨gb136, 1, none⟩ = some (.slice A0_1 l0_1.length c0_1) := (Z3l BK136.out 1).trans rfl
   have hfz5_0 := blk_frozen BK136.out 0
   have hfz5_1 := blk_frozen BK136.out 1
   go_wp2
   go_meet
   case rel => exact ⟨_, (true), (by first | rfl | (simp; done) | (simp [*]; done)), H', ⟨by first | omega | exact Nat.le_refl _⟩, ⟨by (with_reducible repeat (first | refine Z3d ?_ _ | refine Z3e ?_ | refine Z3f ?_ _)); exact BK136.out⟩, ⟨by repeat (first | (with_reducible first | exact HB.out | apply Z3j | apply Z3h | apply Z3i | refine Z3k ?_ GE136.out) | exact HB.out)⟩⟩
  ·
   rw [if_neg c4] at H
   have c4b0 : decide (a0_0 < 0) = false := decide_eq_false c4
   clear c4
   (first | rw [c4b0] | (simp only [i64_w, i32_w]; rw [c4b0]) | skip)
   by_cases c6 : a0_0 > 1073741824
   ·
    rw [if_pos c6] at H
    have c6b0 : decide (1073741824 < a0_0) = true := decide_eq_true c6
    clear c6
    have H' := Aside0.mk H
    clear H
    have hcz7_0 : w3.cell? ⟨gb136, 0, none⟩ = some (.int .i64 a0_0) := (Z3l BK136.out 0).trans rfl
    have hcz7_1 : w3.cell? ⟨gb136, 1, none⟩ = some (.slice A0_1 l0_1.length c0_1) := (Z3l BK136.out 1).trans rfl
    have hfz7_0 := blk_frozen BK136.out 0
    have hfz7_1 := blk_frozen BK136.out 1
    go_wp2
    go_meet
    case rel => exact ⟨_, (true), (by first | rfl | (simp; done) | (simp [*]; done)), H', ⟨by first | omega | exact Nat.le_refl _⟩, ⟨by (with_reducible repeat (first | refine Z3d ?_ _ | refine Z3e ?_ | refine Z3f ?_ _)); exact BK136.out⟩, ⟨by repeat (first | (with_reducible first | exact HB.out | apply Z3j | apply Z3h | apply Z3i | refine Z3k ?_ GE136.out) | exact HB.out)⟩⟩
   ·
    rw [if_neg c6] at H
    have c6b0 : decide (1073741824 < a0_0) = false := decide_eq_false c6
    clear c6
    have H' := Aside0.mk H
    clear H
    have hcz8_0 : w3.cell? ⟨gb136, 0, none⟩ = some (.int .i64 a0_0) := (Z3l BK136.out 0).trans rfl
    have hcz8_1 : w3.cell? ⟨gb136, 1, none⟩ = some (.slice A0_1 l0_1.length c0_1) := (Z3l BK136.out 1).trans rfl
    have hfz8_0 := blk_frozen BK136.out 0
    have hfz8_1 := blk_frozen BK136.out 1
    go_wp2
    go_meet
    case rel => exact ⟨_, (decide ((l0_1.length : Int) > 8)), (by first | rfl | (simp; done) | (simp [*]; done)), H', ⟨by first | omega | exact Nat.le_refl _⟩, ⟨by (with_reducible repeat (first | refine Z3d ?_ _ | refine Z3e ?_ | refine Z3f ?_ _)); exact BK136.out⟩, ⟨by repeat (first | (with_reducible first | exact HB.out | apply Z3j | apply Z3h | apply Z3i | refine Z3k ?_ GE136.out) | exact HB.out)⟩⟩
 case rest =>
  clear HC2
  try clear c1
  try clear p2
  try clear c4
  try clear c4b0
  try clear c6
  try clear c6b0
  try clear hcz5_0
  try clear hcz5_1
  try clear hcz7_0
  try clear hcz7_1
  try clear hcz8_0
  try clear hcz8_1
  try clear hfz5_0
  try clear hfz5_1
  try clear hfz7_0
  try clear hfz7_1
  try clear hfz8_0
  try clear hfz8_1
  obtain ⟨kq, x18_1, rfl, HA, HJ1, BK136, HB⟩ := hcut
  cases kq with
  | zero => exact absurd HA.out (by simp [colloquyref17_May.j0])
  | succ kj1 =>
   have H := HA.out
   clear HA
   simp only [colloquyref17_May.j0] at H
   by_cases c9 : x18_1 = true
   ·
    subst c9
    have H1 : (some false) = some r := by rw [if_pos rfl] at H; exact H
    clear H
    have H := H1
    clear H1
    obtain rfl := Option.some.inj H
    go_wp2
    go_ret
    exact ⟨by first | rfl | (simp [errW_none, errW_some] <;> rfl) | (simp [*, errW_none, errW_some] <;> rfl), by repeat (first | (with_reducible first | exact HB.out | apply Z3j | apply Z3h | apply Z3i | refine Z3k ?_ GE136.out) | exact HB.out)⟩
   ·
    replace c9 := Bool.eq_false_iff.mpr c9
    subst c9
    have H1 : (colloquyref17_May.l0 kj1 a0_0 0 a0_0 l0_1) = some r := by rw [if_neg (show ¬ (false = true) by decide)] at H; exact H
    clear H
    have H := H1
    clear H1
    have H' := Aside0.mk H
    clear H
    have hcz10_0 : wc.cell? ⟨gb136, 0, none⟩ = some (.int .i64 a0_0) := (Z3l BK136.out 0).trans rfl
    have hcz10_1 : wc.cell? ⟨gb136, 1, none⟩ = some (.slice A0_1 l0_1.length c0_1) := (Z3l BK136.out 1).trans rfl
    have hfz10_0 := blk_frozen BK136.out 0
    have hfz10_1 := blk_frozen BK136.out 1
    go_wp2
    go_loopg [3, 4] kj1 (fun kq v3 v4 w' => ∃ (x3_2 : Int) (x4_2 : Int), v3 = .int .i64 x3_2 ∧ v4 = .int .i64 x4_2 ∧ Aside0 (colloquyref17_May.l0 kq x3_2 x4_2 a0_0 l0_1 = some r) ∧ Aside0 (kq ≤ kj1) ∧ Aside0 (w'.heap[gb136]? = some (.cells #[.int .i64 a0_0, (.slice A0_1 l0_1.length c0_1)] 24 (0, 0))) ∧ Aside0 (Below w.heap.size w w'))
    case atStart => exact ⟨(a0_0), (0), (by first | rfl | (simp; done) | (simp [*]; done)), (by first | rfl | (simp; done) | (simp [*]; done)), H', ⟨Nat.le_refl _⟩, ⟨by (with_reducible repeat (first | refine Z3d ?_ _ | refine Z3e ?_ | refine Z3f ?_ _)); exact BK136.out⟩, ⟨by repeat (first | (with_reducible first | exact HB.out | apply Z3j | apply Z3h | apply Z3i | refine Z3k ?_ GE136.out) | exact HB.out)⟩⟩
    case round =>
     clear H'
     try clear c1
     try clear p2
     try clear c4
     try clear c4b0
     try clear c6
     try clear c6b0
     try clear c9
     try clear hcz10_0
     try clear hcz10_1
     try clear hcz5_0
     try clear hcz5_1
     try clear hcz7_0
     try clear hcz7_1
     try clear hcz8_0
     try clear hcz8_1
     try clear hfz10_0
     try clear hfz10_1
     try clear hfz5_0
     try clear hfz5_1
     try clear hfz7_0
     try clear hfz7_1
     try clear hfz8_0
     try clear hfz8_1
     try clear p2
     obtain ⟨x3_2, x4_2, rfl, rfl, HA, HK2, BK136, HB⟩ := hrel
     cases gk with
     | zero => exact absurd HA.out (by simp [colloquyref17_May.l0])
     | succ k2 =>
      have H := HA.out
      clear HA
      simp only [colloquyref17_May.l0] at H
      by_cases c11 : x4_2 < (l0_1.length : Int)
      ·
       rw [if_pos c11] at H
       have c11b0 : decide (x4_2 < (l0_1.length : Int)) = true := decide_eq_true c11
       clear c11
       by_cases c12 : 0 ≤ x4_2
       ·
        rw [if_pos c12] at H
        have c12b0 : decide (0 ≤ x4_2) = true := decide_eq_true c12
        clear c12
        by_cases c13 : ((rd_T42 l0_1 x4_2).f0) ≤ x3_2
        ·
         rw [if_pos c13] at H
         have c13b0 : decide (((rd_T42 l0_1 x4_2).f0) ≤ x3_2) = true := decide_eq_true c13
         clear c13
         obtain rfl := Option.some.inj H
         have hcz14_0 : wr.cell? ⟨gb136, 0, none⟩ = some (.int .i64 a0_0) := (Z3l BK136.out 0).trans rfl
         have hcz14_1 : wr.cell? ⟨gb136, 1, none⟩ = some (.slice A0_1 l0_1.length c0_1) := (Z3l BK136.out 1).trans rfl
         have hfz14_0 := blk_frozen BK136.out 0
         have hfz14_1 := blk_frozen BK136.out 1
         have p137 : 0 ≤ (x4_2 : Int) := of_decide_eq_true (by first | (with_reducible assumption) | assumption)
         have q137 : x4_2 < (l0_1.length : Int) := of_decide_eq_true (by first | (with_reducible assumption) | assumption)
         obtain ⟨ad137, e137, hx137_0, hx137_1, hx137_2, hx137_3⟩ := at_T42 HR0_1.out x4_2 p137 q137
         cases e137
         replace hx137_0 := (HB.out.cell (Z3g w _ hx137_0)).trans hx137_0
         replace hx137_1 := (HB.out.cell (Z3g w _ hx137_1)).trans hx137_1
         replace hx137_2 := (HB.out.cell (Z3g w _ hx137_2)).trans hx137_2
         replace hx137_3 := (HB.out.cell (Z3g w _ hx137_3)).trans hx137_3
         replace p137 := eq_true p137
         replace q137 := eq_true q137
         go_wp2
         go_ret
         exact ⟨by first | rfl | (simp [errW_none, errW_some] <;> rfl) | (simp [*, errW_none, errW_some] <;> rfl), by repeat (first | (with_reducible first | exact HB.out | apply Z3j | apply Z3h | apply Z3i | refine Z3k ?_ GE136.out) | exact HB.out)⟩
        ·
         rw [if_neg c13] at H
         have c13b0 : decide (((rd_T42 l0_1 x4_2).f0) ≤ x3_2) = false := decide_eq_false c13
         clear c13
         by_cases c15 : ((rd_T42 l0_1 x4_2).f0) > 1073741824
         ·
          rw [if_pos c15] at H
          have c15b0 : decide (1073741824 < ((rd_T42 l0_1 x4_2).f0)) = true := decide_eq_true c15
          clear c15
          obtain rfl := Option.some.inj H
          have hcz16_0 : wr.cell? ⟨gb136, 0, none⟩ = some (.int .i64 a0_0) := (Z3l BK136.out 0).trans rfl
          have hcz16_1 : wr.cell? ⟨gb136, 1, none⟩ = some (.slice A0_1 l0_1.length c0_1) := (Z3l BK136.out 1).trans rfl
          have hfz16_0 := blk_frozen BK136.out 0
          have hfz16_1 := blk_frozen BK136.out 1
          have p137 : 0 ≤ (x4_2 : Int) := of_decide_eq_true (by first | (with_reducible assumption) | assumption)
          have q137 : x4_2 < (l0_1.length : Int) := of_decide_eq_true (by first | (with_reducible assumption) | assumption)
          obtain ⟨ad137, e137, hx137_0, hx137_1, hx137_2, hx137_3⟩ := at_T42 HR0_1.out x4_2 p137 q137
          cases e137
          replace hx137_0 := (HB.out.cell (Z3g w _ hx137_0)).trans hx137_0
          replace hx137_1 := (HB.out.cell (Z3g w _ hx137_1)).trans hx137_1
          replace hx137_2 := (HB.out.cell (Z3g w _ hx137_2)).trans hx137_2
          replace hx137_3 := (HB.out.cell (Z3g w _ hx137_3)).trans hx137_3
          replace p137 := eq_true p137
          replace q137 := eq_true q137
          have p138 : 0 ≤ (x4_2 : Int) := of_decide_eq_true (by first | (with_reducible assumption) | assumption)
          have q138 : x4_2 < (l0_1.length : Int) := of_decide_eq_true (by first | (with_reducible assumption) | assumption)
          obtain ⟨ad138, e138, hx138_0, hx138_1, hx138_2, hx138_3⟩ := at_T42 HR0_1.out x4_2 p138 q138
          obtain rfl : ad137 = ad138 := (by injection e138)
          replace hx138_0 := (HB.out.cell (Z3g w _ hx138_0)).trans hx138_0
          replace hx138_1 := (HB.out.cell (Z3g w _ hx138_1)).trans hx138_1
          replace hx138_2 := (HB.out.cell (Z3g w _ hx138_2)).trans hx138_2
          replace hx138_3 := (HB.out.cell (Z3g w _ hx138_3)).trans hx138_3
          replace p138 := eq_true p138
          replace q138 := eq_true q138
          go_wp2
          go_ret
          exact ⟨by first | rfl | (simp [errW_none, errW_some] <;> rfl) | (simp [*, errW_none, errW_some] <;> rfl), by repeat (first | (with_reducible first | exact HB.out | apply Z3j | apply Z3h | apply Z3i | refine Z3k ?_ GE136.out) | exact HB.out)⟩
         ·
          rw [if_neg c15] at H
          have c15b0 : decide (1073741824 < ((rd_T42 l0_1 x4_2).f0)) = false := decide_eq_false c15
          clear c15
          have H' := Aside0.mk H
          clear H
          have hcz17_0 : wr.cell? ⟨gb136, 0, none⟩ = some (.int .i64 a0_0) := (Z3l BK136.out 0).trans rfl
          have hcz17_1 : wr.cell? ⟨gb136, 1, none⟩ = some (.slice A0_1 l0_1.length c0_1) := (Z3l BK136.out 1).trans rfl
          have hfz17_0 := blk_frozen BK136.out 0
          have hfz17_1 := blk_frozen BK136.out 1
          have p137 : 0 ≤ (x4_2 : Int) := of_decide_eq_true (by first | (with_reducible assumption) | assumption)
          have q137 : x4_2 < (l0_1.length : Int) := of_decide_eq_true (by first | (with_reducible assumption) | assumption)
          obtain ⟨ad137, e137, hx137_0, hx137_1, hx137_2, hx137_3⟩ := at_T42 HR0_1.out x4_2 p137 q137
          cases e137
          replace hx137_0 := (HB.out.cell (Z3g w _ hx137_0)).trans hx137_0
          replace hx137_1 := (HB.out.cell (Z3g w _ hx137_1)).trans hx137_1
          replace hx137_2 := (HB.out.cell (Z3g w _ hx137_2)).trans hx137_2
          replace hx137_3 := (HB.out.cell (Z3g w _ hx137_3)).trans hx137_3
          replace p137 := eq_true p137
          replace q137 := eq_true q137
          have p138 : 0 ≤ (x4_2 : Int) := of_decide_eq_true (by first | (with_reducible assumption) | assumption)
          have q138 : x4_2 < (l0_1.length : Int) := of_decide_eq_true (by first | (with_reducible assumption) | assumption)
          obtain ⟨ad138, e138, hx138_0, hx138_1, hx138_2, hx138_3⟩ := at_T42 HR0_1.out x4_2 p138 q138
          obtain rfl : ad137 = ad138 := (by injection e138)
          replace hx138_0 := (HB.out.cell (Z3g w _ hx138_0)).trans hx138_0
          replace hx138_1 := (HB.out.cell (Z3g w _ hx138_1)).trans hx138_1
          replace hx138_2 := (HB.out.cell (Z3g w _ hx138_2)).trans hx138_2
          replace hx138_3 := (HB.out.cell (Z3g w _ hx138_3)).trans hx138_3
          replace p138 := eq_true p138
          replace q138 := eq_true q138
          have p139 : 0 ≤ (x4_2 : Int) := of_decide_eq_true (by first | (with_reducible assumption) | assumption)
          have q139 : x4_2 < (l0_1.length : Int) := of_decide_eq_true (by first | (with_reducible assumption) | assumption)
          obtain ⟨ad139, e139, hx139_0, hx139_1, hx139_2, hx139_3⟩ := at_T42 HR0_1.out x4_2 p139 q139
          obtain rfl : ad137 = ad139 := (by injection e139)
          replace hx139_0 := (HB.out.cell (Z3g w _ hx139_0)).trans hx139_0
          replace hx139_1 := (HB.out.cell (Z3g w _ hx139_1)).trans hx139_1
          replace hx139_2 := (HB.out.cell (Z3g w _ hx139_2)).trans hx139_2
          replace hx139_3 := (HB.out.cell (Z3g w _ hx139_3)).trans hx139_3
          replace p139 := eq_true p139
          replace q139 := eq_true q139
          go_wp2
          go_roundg k2
          case measure => have := HJ1.out; have := HK2.out; omega
          case rel => exact ⟨((rd_T42 l0_1 x4_2).f0), (wrap64 (x4_2 + 1)), (by first | rfl | (simp; done) | (simp [*]; done)), (by first | rfl | (simp; done) | (simp [*]; done)), H', ⟨by have := HJ1.out; have := HK2.out; omega⟩, ⟨by (with_reducible repeat (first | refine Z3d ?_ _ | refine Z3e ?_ | refine Z3f ?_ _)); exact BK136.out⟩, ⟨by repeat (first | (with_reducible first | exact HB.out | apply Z3j | apply Z3h | apply Z3i | refine Z3k ?_ GE136.out) | exact HB.out)⟩⟩
       ·
        rw [if_neg c12] at H
        exact absurd H (by simp)
      ·
       rw [if_neg c11] at H
       have c11b0 : decide (x4_2 < (l0_1.length : Int)) = false := decide_eq_false c11
       clear c11
       obtain rfl := Option.some.inj H
       have hcz18_0 : wr.cell? ⟨gb136, 0, none⟩ = some (.int .i64 a0_0) := (Z3l BK136.out 0).trans rfl
       have hcz18_1 : wr.cell? ⟨gb136, 1, none⟩ = some (.slice A0_1 l0_1.length c0_1) := (Z3l BK136.out 1).trans rfl
       have hfz18_0 := blk_frozen BK136.out 0
       have hfz18_1 := blk_frozen BK136.out 1
       go_wp2
       go_ret
       exact ⟨by first | rfl | (simp [errW_none, errW_some] <;> rfl) | (simp [*, errW_none, errW_some] <;> rfl), by repeat (first | (with_reducible first | exact HB.out | apply Z3j | apply Z3h | apply Z3i | refine Z3k ?_ GE136.out) | exact HB.out)⟩

end Go.Proofs.Ytipmodlmmadfbaa.PWindowDoes
