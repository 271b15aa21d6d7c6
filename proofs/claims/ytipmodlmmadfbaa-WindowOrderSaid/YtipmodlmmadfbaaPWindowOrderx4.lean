-- Printed by a program of this session (xprint.py), which runs the kit's print and takes some contracts from texts of this session.
import Derived.Test.YtipmodlmmadfbaaPWindowOrderx0
import Derived.Test.YtipmodlmmadfbaaPWindowOrderx2
import Derived.Test.YtipmodlmmadfbaaPWindowOrderx3
namespace Go.Proofs.Ytipmodlmmadfbaa.PWindowOrder
open Go.RowKit Go.Proofs.YtipmodlmmadfbaaW.PrintWords Go.Proofs.YtipmodlmmadfbaaW.PrintLast Go.Proofs.YtipmodlmmadfbaaW.PrintMore
abbrev Z4d := @blk_drewN
abbrev Z4e := @blk_drew
abbrev Z4f := @blk_alloc
abbrev Z4g := @World.block_lt_of_cell?
abbrev Z4h := @Nat.lt_of_lt_of_le
abbrev Z4i := @pw_below_drewN
abbrev Z4j := @below_drew1
abbrev Z4k := @below_alloc
abbrev Z4l := @below_set
abbrev Z4m := @Kd.V_drewN
abbrev Z4n := @Kd.V_drew
abbrev Z4o := @Kd.V_alloc
abbrev Z4p := @Kd.V_mono
abbrev Z4q := @Kd.V_below
abbrev Z4r := @blk_cell
theorem Z4a {α : Type} (l : List α) (i : Nat) (a : α) : l.toArray.setIfInBounds i a = (l.set i a).toArray := List.setIfInBounds_toArray ..
theorem Z4b {α : Type} {x : α} {xs : List α} {a : α} : (x :: xs).set 0 a = a :: xs := rfl
theorem Z4c {α : Type} {x : α} {xs : List α} {n : Nat} {a : α} : (x :: xs).set (n + 1) a = x :: xs.set n a := rfl
attribute [local go_sem] max2_int min2_int max_two min_two max_three min_three max_four min_four   -- for this text's walks alone
set_option linter.unusedVariables false
set_option linter.unusedSimpArgs false

/-! ### colloquylaw17_WindowOrder: function 7 -/
mutual
def colloquylaw17_WindowOrder.j0 : Nat → List Int → Bool → Bool → Option (Bool)
 | 0, _, _, _ => none
 | k + 1, x0, x3, x21 => if x21 = true then (some x3) else (colloquylaw17_WindowOrder.l0 k x0 0 0 ([] : List (S42)) 0 ([] : List (S42)))
def colloquylaw17_WindowOrder.l0 : Nat → List Int → Int → Int → List (S42) → Int → List (S42) → Option (Bool)
 | 0, _, _, _, _, _, _ => none
 | k + 1, x0, x6, x141000, x141001, x142000, x142001 => if x6 < (x0.length : Int) then (colloquylaw17_WindowOrder.l1 k x0 x6 0 x141000 x141001 x142000 x142001) else ((colloquyref17_Same.f k x141000 x141001 x142000 x142001).bind fun t142 => (some t142))
def colloquylaw17_WindowOrder.l1 : Nat → List Int → Int → Int → Int → List (S42) → Int → List (S42) → Option (Bool)
 | 0, _, _, _, _, _, _, _ => none
 | k + 1, x0, x6, x7, x141000, x141001, x142000, x142001 => if x7 < x6 then (if 0 ≤ x6 then (if x6 < (x0.length : Int) then (if 0 ≤ x7 then (if x7 < (x0.length : Int) then (if (rd x0 x6) = (rd x0 x7) then (some true) else (colloquylaw17_WindowOrder.l1 k x0 x6 (wrap64 (x7 + 1)) x141000 x141001 x142000 x142001)) else (none)) else (none)) else (none)) else (none)) else (if 0 ≤ x6 then (if x6 < (x0.length : Int) then ((window_Put.f k x141000 x141001 (rd x0 x6) 0 (rd x0 x6) (⟨#[]⟩ : ByteArray)).bind fun bt147 => (if bt147.2.2 = 0 then (if 0 ≤ (wrap64 ((wrap64 ((x0.length : Int) - 1)) - x6)) then (if (wrap64 ((wrap64 ((x0.length : Int) - 1)) - x6)) < (x0.length : Int) then ((window_Put.f k x142000 x142001 (rd x0 (wrap64 ((wrap64 ((x0.length : Int) - 1)) - x6))) 0 (rd x0 (wrap64 ((wrap64 ((x0.length : Int) - 1)) - x6))) (⟨#[]⟩ : ByteArray)).bind fun bt154 => (if bt154.2.2 = 0 then (colloquylaw17_WindowOrder.l0 k x0 (wrap64 (x6 + 1)) bt147.1 bt147.2.1 bt154.1 bt154.2.1) else (colloquylaw17_WindowOrder.l0 k x0 (wrap64 (x6 + 1)) bt147.1 bt147.2.1 x142000 x142001))) else (none)) else (none)) else (if 0 ≤ (wrap64 ((wrap64 ((x0.length : Int) - 1)) - x6)) then (if (wrap64 ((wrap64 ((x0.length : Int) - 1)) - x6)) < (x0.length : Int) then ((window_Put.f k x142000 x142001 (rd x0 (wrap64 ((wrap64 ((x0.length : Int) - 1)) - x6))) 0 (rd x0 (wrap64 ((wrap64 ((x0.length : Int) - 1)) - x6))) (⟨#[]⟩ : ByteArray)).bind fun bt161 => (if bt161.2.2 = 0 then (colloquylaw17_WindowOrder.l0 k x0 (wrap64 (x6 + 1)) x141000 x141001 bt161.1 bt161.2.1) else (colloquylaw17_WindowOrder.l0 k x0 (wrap64 (x6 + 1)) x141000 x141001 x142000 x142001))) else (none)) else (none)))) else (none)) else (none))
end
def colloquylaw17_WindowOrder.f (k : Nat) (l0 : List Int) : Option (Bool) := (colloquylaw17_awake.f k).bind fun t139 => (if t139 = true then (colloquylaw17_WindowOrder.j0 k l0 t139 (decide ((l0.length : Int) > 8))) else (colloquylaw17_WindowOrder.j0 k l0 t139 true))
theorem colloquylaw17_WindowOrder.mono_l : ∀ k, (∀ y0 y1 y2, LeO (colloquylaw17_WindowOrder.j0 k y0 y1 y2) (colloquylaw17_WindowOrder.j0 (k + 1) y0 y1 y2)) ∧ (∀ y0 y1 y2 y3 y4 y5, LeO (colloquylaw17_WindowOrder.l0 k y0 y1 y2 y3 y4 y5) (colloquylaw17_WindowOrder.l0 (k + 1) y0 y1 y2 y3 y4 y5)) ∧ (∀ y0 y1 y2 y3 y4 y5 y6, LeO (colloquylaw17_WindowOrder.l1 k y0 y1 y2 y3 y4 y5 y6) (colloquylaw17_WindowOrder.l1 (k + 1) y0 y1 y2 y3 y4 y5 y6))
 | 0 => ⟨fun _ _ _ r h => by simp [colloquylaw17_WindowOrder.j0] at h, fun _ _ _ _ _ _ r h => by simp [colloquylaw17_WindowOrder.l0] at h, fun _ _ _ _ _ _ _ r h => by simp [colloquylaw17_WindowOrder.l1] at h⟩
 | k + 1 => by
  obtain ⟨ih0, ih1, ih2⟩ := colloquylaw17_WindowOrder.mono_l k
  refine ⟨?_, ?_, ?_⟩
  ·
   intro y0 y1 y2
   unfold colloquylaw17_WindowOrder.j0
   repeat' first
   | (with_reducible exact ih0 _ _ _)
   | (with_reducible exact ih1 _ _ _ _ _ _)
   | (with_reducible exact ih2 _ _ _ _ _ _ _)
   | (with_reducible exact colloquylaw17_awake.mono _)
   | (with_reducible exact colloquyref17_Same.mono _ _ _ _ _)
   | (with_reducible exact window_Put.mono _ _ _ _ _ _ _)
   | (with_reducible exact LeO.refl _)
   | (with_reducible exact LeO.none _)
   | (with_reducible refine LeO.ite ?_ ?_)
   | (with_reducible refine LeO.bind ?_ (fun _ => ?_))
   | exact ih0 _ _ _
   | exact ih1 _ _ _ _ _ _
   | exact ih2 _ _ _ _ _ _ _
   | exact colloquylaw17_awake.mono _
   | exact colloquyref17_Same.mono _ _ _ _ _
   | exact window_Put.mono _ _ _ _ _ _ _
   | exact LeO.none _
   | refine LeO.ite ?_ ?_
   | refine LeO.bind ?_ (fun _ => ?_)
  ·
   intro y0 y1 y2 y3 y4 y5
   unfold colloquylaw17_WindowOrder.l0
   repeat' first
   | (with_reducible exact ih0 _ _ _)
   | (with_reducible exact ih1 _ _ _ _ _ _)
   | (with_reducible exact ih2 _ _ _ _ _ _ _)
   | (with_reducible exact colloquylaw17_awake.mono _)
   | (with_reducible exact colloquyref17_Same.mono _ _ _ _ _)
   | (with_reducible exact window_Put.mono _ _ _ _ _ _ _)
   | (with_reducible exact LeO.refl _)
   | (with_reducible exact LeO.none _)
   | (with_reducible refine LeO.ite ?_ ?_)
   | (with_reducible refine LeO.bind ?_ (fun _ => ?_))
   | exact ih0 _ _ _
   | exact ih1 _ _ _ _ _ _
   | exact ih2 _ _ _ _ _ _ _
   | exact colloquylaw17_awake.mono _
   | exact colloquyref17_Same.mono _ _ _ _ _
   | exact window_Put.mono _ _ _ _ _ _ _
   | exact LeO.none _
   | refine LeO.ite ?_ ?_
   | refine LeO.bind ?_ (fun _ => ?_)
  ·
   intro y0 y1 y2 y3 y4 y5 y6
   unfold colloquylaw17_WindowOrder.l1
   repeat' first
   | (with_reducible exact ih0 _ _ _)
   | (with_reducible exact ih1 _ _ _ _ _ _)
   | (with_reducible exact ih2 _ _ _ _ _ _ _)
   | (with_reducible exact colloquylaw17_awake.mono _)
   | (with_reducible exact colloquyref17_Same.mono _ _ _ _ _)
   | (with_reducible exact window_Put.mono _ _ _ _ _ _ _)
   | (with_reducible exact LeO.refl _)
   | (with_reducible exact LeO.none _)
   | (with_reducible refine LeO.ite ?_ ?_)
   | (with_reducible refine LeO.bind ?_ (fun _ => ?_))
   | exact ih0 _ _ _
   | exact ih1 _ _ _ _ _ _
   | exact ih2 _ _ _ _ _ _ _
   | exact colloquylaw17_awake.mono _
   | exact colloquyref17_Same.mono _ _ _ _ _
   | exact window_Put.mono _ _ _ _ _ _ _
   | exact LeO.none _
   | refine LeO.ite ?_ ?_
   | refine LeO.bind ?_ (fun _ => ?_)
theorem colloquylaw17_WindowOrder.mono : ∀ a0 k, LeO (colloquylaw17_WindowOrder.f k a0) (colloquylaw17_WindowOrder.f (k + 1) a0) := by
 intro a0 k
 obtain ⟨ih0, ih1, ih2⟩ := colloquylaw17_WindowOrder.mono_l k
 unfold colloquylaw17_WindowOrder.f
 repeat' first
  | (with_reducible exact ih0 _ _ _)
  | (with_reducible exact ih1 _ _ _ _ _ _)
  | (with_reducible exact ih2 _ _ _ _ _ _ _)
  | (with_reducible exact colloquylaw17_awake.mono _)
  | (with_reducible exact colloquyref17_Same.mono _ _ _ _ _)
  | (with_reducible exact window_Put.mono _ _ _ _ _ _ _)
  | (with_reducible exact LeO.refl _)
  | (with_reducible exact LeO.none _)
  | (with_reducible refine LeO.ite ?_ ?_)
  | (with_reducible refine LeO.bind ?_ (fun _ => ?_))
  | exact ih0 _ _ _
  | exact ih1 _ _ _ _ _ _
  | exact ih2 _ _ _ _ _ _ _
  | exact colloquylaw17_awake.mono _
  | exact colloquyref17_Same.mono _ _ _ _ _
  | exact window_Put.mono _ _ _ _ _ _ _
  | exact LeO.none _
  | refine LeO.ite ?_ ?_
  | refine LeO.bind ?_ (fun _ => ?_)
def colloquylaw17_WindowOrder.T12 : Bool × List (List Nat × List Nat) := (true, [([], []), ([], []), ([0, 1], [0, 1]), ([2], [2]), ([], []), ([], []), ([4, 5], [4, 5]), ([6], [6]), ([3, 7], [3, 7])])
def colloquylaw17_WindowOrder.B12 : List Nat := [0, 0, 3, 7, 0, 0, 48, 112, 255]
theorem colloquylaw17_WindowOrder.tab12 : rtab .any (opsOf Try.f7 12) = colloquylaw17_WindowOrder.T12 := by kernel_rfl
theorem colloquylaw17_WindowOrder.bits12 : waitsOk colloquylaw17_WindowOrder.T12.2 colloquylaw17_WindowOrder.B12 = true := by kernel_rfl
def colloquylaw17_WindowOrder.T14 : Bool × List (List Nat × List Nat) := (true, [([], []), ([], []), ([], []), ([1, 2], [1, 2]), ([3], [3]), ([], []), ([], []), ([5, 6], [5, 6]), ([7], [7]), ([8], [8]), ([0, 4, 9], [0, 4, 9]), ([10], [10]), ([11], [11]), ([11], [11]), ([], []), ([14, 12, 10, 0, 1, 2, 3, 4, 5, 6, 7, 8, 9, 10, 11, 12, 14], [12, 14]), ([13, 15, 0, 1, 2, 3, 4, 5, 6, 7, 8, 9, 10, 11, 12, 13, 14, 15], [13])])
def colloquylaw17_WindowOrder.B14 : List Nat := [0, 0, 0, 6, 14, 0, 0, 96, 224, 480, 1023, 2047, 4095, 4095, 0, 24575, 65535]
theorem colloquylaw17_WindowOrder.tab14 : rtab .any (opsOf Try.f7 14) = colloquylaw17_WindowOrder.T14 := by kernel_rfl
theorem colloquylaw17_WindowOrder.bits14 : waitsOk colloquylaw17_WindowOrder.T14.2 colloquylaw17_WindowOrder.B14 = true := by kernel_rfl
set_option maxHeartbeats 8000000 in
set_option maxRecDepth 100000 in
theorem colloquylaw17_WindowOrder.calls (k : Nat) (A0 : Option Addr) (c0 : Nat) (l0 : List Int) (r : Bool) (w : World) (hr0 : Kd.C (Kd.int .i64) w A0 l0.length l0) (hc0 : l0.length ≤ c0) (h : colloquylaw17_WindowOrder.f k l0 = some r) :
 Calls Try.prog 7 #[.slice A0 l0.length c0] w fun e w' => e = .returned (.bool r) ∧ Below w.heap.size w w' := by
 have hu24 := Try.underlying24
 have hu27 := Try.underlying27
 have HR0 := Aside0.mk hr0
 have HC0 := Aside0.mk hc0
 clear hr0 hc0
 have HB := Aside0.mk (Below.refl w.heap.size w)
 have H : ((colloquylaw17_awake.f k).bind fun t139 => (if t139 = true then (colloquylaw17_WindowOrder.j0 k l0 t139 (decide ((l0.length : Int) > 8))) else (colloquylaw17_WindowOrder.j0 k l0 t139 true))) = some r := h
 clear h
 replace H := Option.bind_eq_some_iff.mp H
 obtain ⟨t139, A20, H⟩ := H
 replace H : (if t139 = true then (colloquylaw17_WindowOrder.j0 k l0 t139 (decide ((l0.length : Int) > 8))) else (colloquylaw17_WindowOrder.j0 k l0 t139 true)) = some r := H
 have A2 := Aside0.mk A20
 clear A20
 have HC3 := Aside0.mk H
 clear H
 go_enter Try.func7, Try.ntmps7
 go_upto_region 2 with (first | ((with_reducible refine gate_callee (f := 8) rfl ?_); refine goesL_ (some 14) rfl rfl Try.func8 (by kernel_rfl) rfl #[] rfl (by (try simp only [List.map_toArray, List.map_cons, List.map_nil]); first | done | rfl | (simp only [List.length_drop, List.length_take]; rfl)) ?_; (with_reducible refine (colloquylaw17_awake.calls k  t139 _ A2.out).mono ?_); rintro e w4 ⟨rfl, hb⟩; refine ⟨_, rfl, ?_⟩; have n0_ := Aside0.mk (below_step (by repeat (first | (with_reducible first | exact HB.out | apply Z4k | apply Z4i | apply Z4j) | exact HB.out)) hb); clear HB; have HB := n0_; clear n0_; (try clear hb); (try clear hb2); (try clear hk); (try clear hi)))
 (try simp only [Act.put, List.setIfInBounds_toArray, List.set_cons_zero, List.set_cons_succ])
 go_cut [21] (fun v21 wc => ∃ (kq : Nat) (x21_2 : Bool), v21 = .bool x21_2 ∧ Aside0 (colloquylaw17_WindowOrder.j0 kq l0 t139 x21_2 = some r) ∧ Aside0 (kq ≤ k) ∧ Aside0 (Below w.heap.size w wc))
 case first =>
  have H := HC3.out
  clear HC3
  by_cases c5 : t139 = true
  ·
   subst c5
   have H1 : (colloquylaw17_WindowOrder.j0 k l0 true (decide ((l0.length : Int) > 8))) = some r := by rw [if_pos rfl] at H; exact H
   clear H
   have H := H1
   clear H1
   have H' := Aside0.mk H
   clear H
   go_wp2
   go_meet
   case rel => exact ⟨_, (decide ((l0.length : Int) > 8)), (by first | rfl | (simp; done) | (simp [*]; done)), H', ⟨by first | omega | exact Nat.le_refl _⟩, ⟨by repeat (first | (with_reducible first | exact HB.out | apply Z4k | apply Z4i | apply Z4j) | exact HB.out)⟩⟩
  ·
   replace c5 := Bool.eq_false_iff.mpr c5
   subst c5
   have H1 : (colloquylaw17_WindowOrder.j0 k l0 false true) = some r := by rw [if_neg (show ¬ (false = true) by decide)] at H; exact H
   clear H
   have H := H1
   clear H1
   have H' := Aside0.mk H
   clear H
   go_wp2
   go_meet
   case rel => exact ⟨_, (true), (by first | rfl | (simp; done) | (simp [*]; done)), H', ⟨by first | omega | exact Nat.le_refl _⟩, ⟨by repeat (first | (with_reducible first | exact HB.out | apply Z4k | apply Z4i | apply Z4j) | exact HB.out)⟩⟩
 case rest =>
  clear HC3
  try clear p2
  try clear c5
  obtain ⟨kq, x21_2, rfl, HA, HJ2, HB⟩ := hcut
  cases kq with
  | zero => exact absurd HA.out (by simp [colloquylaw17_WindowOrder.j0])
  | succ kj2 =>
   have H := HA.out
   clear HA
   simp only [colloquylaw17_WindowOrder.j0] at H
   by_cases c6 : x21_2 = true
   ·
    subst c6
    have H1 : (some t139) = some r := by rw [if_pos rfl] at H; exact H
    clear H
    have H := H1
    clear H1
    obtain rfl := Option.some.inj H
    go_wp2
    go_ret
    exact ⟨by first | rfl | (simp [errW_none, errW_some] <;> rfl) | (simp [*, errW_none, errW_some] <;> rfl), by repeat (first | (with_reducible first | exact HB.out | apply Z4k | apply Z4i | apply Z4j) | exact HB.out)⟩
   ·
    replace c6 := Bool.eq_false_iff.mpr c6
    subst c6
    have H1 : (colloquylaw17_WindowOrder.l0 kj2 l0 0 0 ([] : List (S42)) 0 ([] : List (S42))) = some r := by rw [if_neg (show ¬ (false = true) by decide)] at H; exact H
    clear H
    have H := H1
    clear H1
    have H' := Aside0.mk H
    clear H
    go_wp2_with (first | ((with_reducible refine gate_dst (N := 4) rfl ?_); (try (refine gate_guard (by rfl) ?_; dsimp only)); refine box_event ?hg (N := 4) ?hd (cs := #[.int .i64 0, .slice none 0 0]) (t := 24) ?hr ?_; (case hd => rfl); (case hg => rfl); (case hr => first | (go_simp; done) | (go_simp; rfl)); intro gb140 hg w7 hbox hb; have n0_ := Aside0.mk (below_step (by repeat (first | (with_reducible first | exact HB.out | apply Z4k | apply Z4i | apply Z4j) | exact HB.out)) hb); have n1_ := Aside0.mk (hbox); have n2_ := Aside0.mk ((by rw [hg]; exact (below_size (by repeat (first | (with_reducible first | exact HB.out | apply Z4k | apply Z4i | apply Z4j) | exact HB.out))) : w.heap.size ≤ gb140)); have n3_ := Aside0.mk ((by rw [hg]; exact (below_size (by repeat (first | (with_reducible first | exact HB.out | apply Z4k | apply Z4i | apply Z4j) | exact HB.out))) : w.heap.size ≤ gb140)); clear HB; have HB := n0_; have BK140 := n1_; have GW140 := n2_; have GE140 := n3_; clear n0_ n1_ n2_ n3_; clear hb hbox hg; have hcz8_0 : w7.cell? ⟨gb140, 0, none⟩ = some (.int .i64 0) := (Z4r BK140.out 0).trans rfl; have hcz8_1 : w7.cell? ⟨gb140, 1, none⟩ = some (.slice none 0 0) := (Z4r BK140.out 1).trans rfl; have hfz8_0 := blk_frozen BK140.out 0; have hfz8_1 := blk_frozen BK140.out 1) | ((with_reducible refine gate_dst (N := 5) rfl ?_); (try (refine gate_guard (by rfl) ?_; dsimp only)); refine box_event ?hg (N := 5) ?hd (cs := #[.int .i64 0, .slice none 0 0]) (t := 24) ?hr ?_; (case hd => rfl); (case hg => rfl); (case hr => first | (go_simp; done) | (go_simp; rfl)); intro gb141 hg w9 hbox hb; have n0_ := Aside0.mk (blk_below (g := gb140) (o := .cells #[.int .i64 0, .slice none 0 0] 24 (0, 0)) (by (with_reducible repeat (first | refine Z4d ?_ _ | refine Z4e ?_ | refine Z4f ?_ _)); refine blk_put (cs := #[.int .i64 0, .slice none 0 0]) ?_ 1 _ rfl; (with_reducible repeat (first | refine Z4d ?_ _ | refine Z4e ?_ | refine Z4f ?_ _)); refine blk_put (cs := #[.int .i64 0, .slice none 0 0]) ?_ 0 _ rfl; (with_reducible repeat (first | refine Z4d ?_ _ | refine Z4e ?_ | refine Z4f ?_ _)); exact BK140.out) hb); have n1_ := Aside0.mk (below_step (by repeat (first | (with_reducible first | exact HB.out | apply Z4k | apply Z4i | apply Z4j | refine Z4l ?_ GE140.out) | exact HB.out)) hb); have n2_ := Aside0.mk (hbox); have n3_ := Aside0.mk ((by rw [hg]; exact (below_size (by repeat (first | (with_reducible first | exact HB.out | apply Z4k | apply Z4i | apply Z4j | refine Z4l ?_ GE140.out) | exact HB.out))) : w.heap.size ≤ gb141)); have n4_ := Aside0.mk ((by rw [hg]; exact (below_size (by repeat (first | (with_reducible first | exact HB.out | apply Z4k | apply Z4i | apply Z4j | refine Z4l ?_ GE140.out) | exact HB.out))) : w.heap.size ≤ gb141)); have n5_ := Aside0.mk ((by rw [hg]; exact Nat.ne_of_lt (blk_lt (g := gb140) (o := .cells #[.int .i64 0, .slice none 0 0] 24 (0, 0)) (by (with_reducible repeat (first | refine Z4d ?_ _ | refine Z4e ?_ | refine Z4f ?_ _)); refine blk_put (cs := #[.int .i64 0, .slice none 0 0]) ?_ 1 _ rfl; (with_reducible repeat (first | refine Z4d ?_ _ | refine Z4e ?_ | refine Z4f ?_ _)); refine blk_put (cs := #[.int .i64 0, .slice none 0 0]) ?_ 0 _ rfl; (with_reducible repeat (first | refine Z4d ?_ _ | refine Z4e ?_ | refine Z4f ?_ _)); exact BK140.out)) : gb140 ≠ gb141)); have n6_ := Aside0.mk ((by rw [hg]; exact Nat.ne_of_gt (blk_lt (g := gb140) (o := .cells #[.int .i64 0, .slice none 0 0] 24 (0, 0)) (by (with_reducible repeat (first | refine Z4d ?_ _ | refine Z4e ?_ | refine Z4f ?_ _)); refine blk_put (cs := #[.int .i64 0, .slice none 0 0]) ?_ 1 _ rfl; (with_reducible repeat (first | refine Z4d ?_ _ | refine Z4e ?_ | refine Z4f ?_ _)); refine blk_put (cs := #[.int .i64 0, .slice none 0 0]) ?_ 0 _ rfl; (with_reducible repeat (first | refine Z4d ?_ _ | refine Z4e ?_ | refine Z4f ?_ _)); exact BK140.out)) : gb141 ≠ gb140)); clear BK140; clear HB; have BK140 := n0_; have HB := n1_; have BK141 := n2_; have GW141 := n3_; have GE141 := n4_; have NB140_141 := n5_; have NB141_140 := n6_; clear n0_ n1_ n2_ n3_ n4_ n5_ n6_; clear hb hbox hg; have hnb10 := NB141_140.out; have hnc10 := NB140_141.out; have hcz11_0 : w9.cell? ⟨gb141, 0, none⟩ = some (.int .i64 0) := (Z4r BK141.out 0).trans rfl; have hcz11_1 : w9.cell? ⟨gb141, 1, none⟩ = some (.slice none 0 0) := (Z4r BK141.out 1).trans rfl; have hfz11_0 := blk_frozen BK141.out 0; have hfz11_1 := blk_frozen BK141.out 1))
    go_loopg [6] kj2 (fun kq v6 w' => ∃ (x6_2 : Int) (x141000_2 : Int) (x141001_2 : List (S42)) (x142000_2 : Int) (x142001_2 : List (S42)) (u141001 : Value) (u142001 : Value), v6 = .int .i64 x6_2 ∧ Aside0 (colloquylaw17_WindowOrder.l0 kq l0 x6_2 x141000_2 x141001_2 x142000_2 x142001_2 = some r) ∧ Aside0 (kq ≤ kj2) ∧ Aside0 (Kd.V k42 42 w' w.heap.size (fun k_ => k_ ≠ gb140 ∧ k_ ≠ gb141) u141001 x141001_2) ∧ Aside0 (Kd.V k42 42 w' w.heap.size (fun k_ => k_ ≠ gb140 ∧ k_ ≠ gb141) u142001 x142001_2) ∧ Aside0 (w'.heap[gb140]? = some (.cells #[.int .i64 x141000_2, u141001] 24 (0, 0))) ∧ Aside0 (w'.heap[gb141]? = some (.cells #[.int .i64 x142000_2, u142001] 24 (0, 0))) ∧ Aside0 (Below w.heap.size w w'))
    case atStart => exact ⟨(0), (0), (([] : List (S42))), (0), (([] : List (S42))), (.slice none 0 0), (.slice none 0 0), (by first | rfl | (simp; done) | (simp [*]; done)), H', ⟨Nat.le_refl _⟩, ⟨by first | exact Kd.V_nil _ _ _ _ _ | exact Kd.R_V (by first | exact Kd.R_nil _ _ _ _ _ | exact Kd.N_nil _ _ _ _ _ | exact Kd.V_nil _ _ _ _ _ | exact Kd.Q_nil _ _ _ _ _ | exact Kd.S_nil _ _ _ _ _)⟩, ⟨by first | exact Kd.V_nil _ _ _ _ _ | exact Kd.R_V (by first | exact Kd.R_nil _ _ _ _ _ | exact Kd.N_nil _ _ _ _ _ | exact Kd.V_nil _ _ _ _ _ | exact Kd.Q_nil _ _ _ _ _ | exact Kd.S_nil _ _ _ _ _)⟩, ⟨by (with_reducible repeat (first | refine Z4d ?_ _ | refine Z4e ?_ | refine Z4f ?_ _)); refine blk_far ?_ NB140_141.out _; (with_reducible repeat (first | refine Z4d ?_ _ | refine Z4e ?_ | refine Z4f ?_ _)); refine blk_far ?_ NB140_141.out _; (with_reducible repeat (first | refine Z4d ?_ _ | refine Z4e ?_ | refine Z4f ?_ _)); exact BK140.out⟩, ⟨by (with_reducible repeat (first | refine Z4d ?_ _ | refine Z4e ?_ | refine Z4f ?_ _)); refine blk_put (cs := #[.int .i64 0, .slice none 0 0]) ?_ 1 _ rfl; (with_reducible repeat (first | refine Z4d ?_ _ | refine Z4e ?_ | refine Z4f ?_ _)); refine blk_put (cs := #[.int .i64 0, .slice none 0 0]) ?_ 0 _ rfl; (with_reducible repeat (first | refine Z4d ?_ _ | refine Z4e ?_ | refine Z4f ?_ _)); exact BK141.out⟩, ⟨by repeat (first | (with_reducible first | exact HB.out | apply Z4k | apply Z4i | apply Z4j | refine Z4l ?_ GE140.out | refine Z4l ?_ GE141.out) | exact HB.out)⟩⟩
    case round =>
     clear H'
     try clear c1
     try clear p2
     try clear c5
     try clear c6
     try clear c7
     try clear c8
     try clear c10
     try clear hcz11_0
     try clear hcz11_1
     try clear hcz8_0
     try clear hcz8_1
     try clear hfz11_0
     try clear hfz11_1
     try clear hfz8_0
     try clear hfz8_1
     try clear p2
     obtain ⟨x6_2, x141000_2, x141001_2, x142000_2, x142001_2, u141001, u142001, rfl, HA, HK2, HO_141001, HO_142001, BK140, BK141, HB⟩ := hrel
     cases gk with
     | zero => exact absurd HA.out (by simp [colloquylaw17_WindowOrder.l0])
     | succ k2 =>
      have H := HA.out
      clear HA
      simp only [colloquylaw17_WindowOrder.l0] at H
      by_cases c12 : x6_2 < (l0.length : Int)
      ·
       rw [if_pos c12] at H
       have c12b0 : decide (x6_2 < (l0.length : Int)) = true := decide_eq_true c12
       clear c12
       have H' := Aside0.mk H
       clear H
       go_wp2
       go_loopg [7] k2 (fun kq v7 w' => ∃ (x7_3 : Int), v7 = .int .i64 x7_3 ∧ Aside0 (colloquylaw17_WindowOrder.l1 kq l0 x6_2 x7_3 x141000_2 x141001_2 x142000_2 x142001_2 = some r) ∧ Aside0 (kq ≤ k2) ∧ Aside0 (Kd.V k42 42 w' w.heap.size (fun k_ => k_ ≠ gb140 ∧ k_ ≠ gb141) u141001 x141001_2) ∧ Aside0 (Kd.V k42 42 w' w.heap.size (fun k_ => k_ ≠ gb140 ∧ k_ ≠ gb141) u142001 x142001_2) ∧ Aside0 (w'.heap[gb140]? = some (.cells #[.int .i64 x141000_2, u141001] 24 (0, 0))) ∧ Aside0 (w'.heap[gb141]? = some (.cells #[.int .i64 x142000_2, u142001] 24 (0, 0))) ∧ Aside0 (Below w.heap.size w w'))
       case atStart => exact ⟨(0), (by first | rfl | (simp; done) | (simp [*]; done)), H', ⟨Nat.le_refl _⟩, ⟨by (with_reducible repeat (first | apply Z4o | apply Z4m | apply Z4n)); exact HO_141001.out⟩, ⟨by (with_reducible repeat (first | apply Z4o | apply Z4m | apply Z4n)); exact HO_142001.out⟩, ⟨by (with_reducible repeat (first | refine Z4d ?_ _ | refine Z4e ?_ | refine Z4f ?_ _)); exact BK140.out⟩, ⟨by (with_reducible repeat (first | refine Z4d ?_ _ | refine Z4e ?_ | refine Z4f ?_ _)); exact BK141.out⟩, ⟨by repeat (first | (with_reducible first | exact HB.out | apply Z4k | apply Z4i | apply Z4j | refine Z4l ?_ GE140.out | refine Z4l ?_ GE141.out) | exact HB.out)⟩⟩
       case round =>
        clear H'
        try clear c1
        try clear p2
        try clear c5
        try clear c6
        try clear c7
        try clear c8
        try clear c10
        try clear c12
        try clear c12b0
        try clear hcz11_0
        try clear hcz11_1
        try clear hcz8_0
        try clear hcz8_1
        try clear hfz11_0
        try clear hfz11_1
        try clear hfz8_0
        try clear hfz8_1
        try clear p2
        obtain ⟨x7_3, rfl, HA, HK3, HO_141001, HO_142001, BK140, BK141, HB⟩ := hrel
        cases gk with
        | zero => exact absurd HA.out (by simp [colloquylaw17_WindowOrder.l1])
        | succ k3 =>
         have H := HA.out
         clear HA
         simp only [colloquylaw17_WindowOrder.l1] at H
         by_cases c13 : x7_3 < x6_2
         ·
          rw [if_pos c13] at H
          have c13b0 : decide (x7_3 < x6_2) = true := decide_eq_true c13
          clear c13
          by_cases c14 : 0 ≤ x6_2
          ·
           rw [if_pos c14] at H
           have c14b0 : decide (0 ≤ x6_2) = true := decide_eq_true c14
           clear c14
           by_cases c15 : x6_2 < (l0.length : Int)
           ·
            rw [if_pos c15] at H
            have c15b0 : decide (x6_2 < (l0.length : Int)) = true := decide_eq_true c15
            clear c15
            by_cases c16 : 0 ≤ x7_3
            ·
             rw [if_pos c16] at H
             have c16b0 : decide (0 ≤ x7_3) = true := decide_eq_true c16
             clear c16
             by_cases c17 : x7_3 < (l0.length : Int)
             ·
              rw [if_pos c17] at H
              have c17b0 : decide (x7_3 < (l0.length : Int)) = true := decide_eq_true c17
              clear c17
              by_cases c18 : (rd l0 x6_2) = (rd l0 x7_3)
              ·
               rw [if_pos c18] at H
               have c18b0 : ((rd l0 x6_2) == (rd l0 x7_3)) = true := beq_iff_eq.mpr c18
               have c18b1 : ((rd l0 x6_2) != (rd l0 x7_3)) = false := bne_eq_false_iff_eq.mpr c18
               clear c18
               obtain rfl := Option.some.inj H
               try go_wp2
               have n0_ := Aside0.mk (Z4n HO_141001.out)
               have n1_ := Aside0.mk (Z4n HO_142001.out)
               have n2_ := Aside0.mk (Z4e BK140.out)
               have n3_ := Aside0.mk (Z4e BK141.out)
               have n4_ := Aside0.mk (Z4j HB.out)
               clear HO_141001
               clear HO_142001
               clear BK140
               clear BK141
               clear HB
               have HO_141001 := n0_
               have HO_142001 := n1_
               have BK140 := n2_
               have BK141 := n3_
               have HB := n4_
               clear n0_ n1_ n2_ n3_ n4_
               have p143 : 0 ≤ (x6_2 : Int) := of_decide_eq_true (by first | (with_reducible assumption) | assumption)
               have q143 : x6_2 < (l0.length : Int) := of_decide_eq_true (by first | (with_reducible assumption) | assumption)
               obtain ⟨ad143, e143, hx143_0⟩ := Kd.at_int HR0.out x6_2 p143 q143
               have hw143_0 := hx143_0
               cases e143
               replace hx143_0 := (HB.out.cell (Z4g w _ hx143_0)).trans hx143_0
               replace p143 := eq_true p143
               replace q143 := eq_true q143
               have p144 : 0 ≤ (x7_3 : Int) := of_decide_eq_true (by first | (with_reducible assumption) | assumption)
               have q144 : x7_3 < (l0.length : Int) := of_decide_eq_true (by first | (with_reducible assumption) | assumption)
               obtain ⟨ad144, e144, hx144_0⟩ := Kd.at_int HR0.out x7_3 p144 q144
               have hw144_0 := hx144_0
               obtain rfl : ad143 = ad144 := (by injection e144)
               replace hx144_0 := (HB.out.cell (Z4g w _ hx144_0)).trans hx144_0
               replace p144 := eq_true p144
               replace q144 := eq_true q144
               refine start_ (n := 9) (S := fun w' => w'.cell? (ad143.add (x6_2).toNat) = some (.int .i64 (rd l0 x6_2)) ∧ w'.cell? (ad143.add (x7_3).toNat) = some (.int .i64 (rd l0 x7_3))) (ds := []) #[false, false, false, false, false, false, false, false, false] (by kernel_rfl) rfl rfl ⟨((HB.out.cell (Z4g w _ hw143_0)).trans hw143_0), ((HB.out.cell (Z4g w _ hw144_0)).trans hw144_0)⟩ (fun hHeld => ?_); refine with_tabW colloquylaw17_WindowOrder.tab12 colloquylaw17_WindowOrder.bits12 (fun HT_ HW_ => ?_)
               generalize wr.drew = w19 at HO_141001 HO_142001 BK140 BK141 HB hx143_0 hx144_0 hHeld ⊢
               refine pure_ (i := 0) (N := some 36) (v := ?_) (a' := ?_) #[true, false, false, false, false, false, false, false, false] rfl rfl (any_of HT_.out (by kernel_rfl)) (fun _ _ _ h => h) (Or.inl ⟨by rfl, ?_⟩) ?_ ?_
               rotate_left
               ·
                intro w'
                go_simp
                with_reducible rfl
               rotate_left
               ·
                simp only [Act.put, Z4a, Z4b, Z4c, i64_w, i32_w]
                rfl
               refine pure_ (i := 1) (N := some 37) (v := ?_) (a' := ?_) #[true, true, false, false, false, false, false, false, false] rfl rfl (any_of HT_.out (by kernel_rfl)) (fun _ _ _ h => h) (Or.inl ⟨by rfl, ?_⟩) ?_ ?_
               rotate_left
               ·
                intro w'
                go_simp
                with_reducible rfl
               rotate_left
               ·
                simp only [Act.put, Z4a, Z4b, Z4c, i64_w, i32_w]
                rfl
               refine pure_ (i := 2) (N := some 38) (v := ?_) (a' := ?_) #[true, true, true, false, false, false, false, false, false] rfl rfl (any_of HT_.out (by kernel_rfl)) (fun _ _ _ h => h) (Or.inl ⟨by rfl, ?_⟩) ?_ ?_
               rotate_left
               ·
                intro w'
                go_simp
                with_reducible rfl
               rotate_left
               ·
                simp only [Act.put, Z4a, Z4b, Z4c, i64_w, i32_w]
                rfl
               refine pure_ (i := 4) (N := some 40) (v := ?_) (a' := ?_) #[true, true, true, false, true, false, false, false, false] rfl rfl (any_of HT_.out (by kernel_rfl)) (fun _ _ _ h => h) (Or.inl ⟨by rfl, ?_⟩) ?_ ?_
               rotate_left
               ·
                intro w'
                go_simp
                with_reducible rfl
               rotate_left
               ·
                simp only [Act.put, Z4a, Z4b, Z4c, i64_w, i32_w]
                rfl
               refine pure_ (i := 5) (N := some 41) (v := ?_) (a' := ?_) #[true, true, true, false, true, true, false, false, false] rfl rfl (any_of HT_.out (by kernel_rfl)) (fun _ _ _ h => h) (Or.inl ⟨by rfl, ?_⟩) ?_ ?_
               rotate_left
               ·
                intro w'
                go_simp
                with_reducible rfl
               rotate_left
               ·
                simp only [Act.put, Z4a, Z4b, Z4c, i64_w, i32_w]
                rfl
               refine pure_ (i := 6) (N := some 42) (v := ?_) (a' := ?_) #[true, true, true, false, true, true, true, false, false] rfl rfl (any_of HT_.out (by kernel_rfl)) (fun _ _ _ h => h) (Or.inl ⟨by rfl, ?_⟩) ?_ ?_
               rotate_left
               ·
                intro w'
                go_simp
                with_reducible rfl
               rotate_left
               ·
                simp only [Act.put, Z4a, Z4b, Z4c, i64_w, i32_w]
                rfl
               refine take_ (i := 3) (N := some 39) (v := ?_) (a' := ?_) #[true, true, true, true, true, true, true, false, false] rfl rfl (take_ofW HT_.out HW_.out (by kernel_rfl)) (fun _ _ _ h => h) (Or.inl ⟨by rfl, ?_⟩) hHeld ?_ ?_
               rotate_left
               ·
                rintro w' ⟨s0, s1⟩
                go_simp
                with_reducible rfl
               rotate_left
               ·
                simp only [Act.put, Z4a, Z4b, Z4c, i64_w, i32_w]
                rfl
               refine take_ (i := 7) (N := some 43) (v := ?_) (a' := ?_) #[true, true, true, true, true, true, true, true, false] rfl rfl (take_ofW HT_.out HW_.out (by kernel_rfl)) (fun _ _ _ h => h) (Or.inl ⟨by rfl, ?_⟩) hHeld ?_ ?_
               rotate_left
               ·
                rintro w' ⟨s0, s1⟩
                go_simp
                with_reducible rfl
               rotate_left
               ·
                simp only [Act.put, Z4a, Z4b, Z4c, i64_w, i32_w]
                rfl
               refine pure_ (i := 8) (N := some 44) (v := ?_) (a' := ?_) #[true, true, true, true, true, true, true, true, true] rfl rfl (any_of HT_.out (by kernel_rfl)) (fun _ _ _ h => h) (Or.inl ⟨by rfl, ?_⟩) ?_ ?_
               rotate_left
               ·
                intro w'
                go_simp
                with_reducible rfl
               rotate_left
               ·
                simp only [Act.put, Z4a, Z4b, Z4c, i64_w, i32_w]
                rfl
               refine done_ (done_of HT_.out (by kernel_rfl)) ?_
               try go_wp2
               go_ret
               exact ⟨by first | rfl | (simp [errW_none, errW_some] <;> rfl) | (simp [*, errW_none, errW_some] <;> rfl), by repeat (first | (with_reducible first | exact HB.out | apply Z4k | apply Z4i | apply Z4j | refine Z4l ?_ GE140.out | refine Z4l ?_ GE141.out) | exact HB.out)⟩
              ·
               rw [if_neg c18] at H
               have c18b0 : ((rd l0 x6_2) == (rd l0 x7_3)) = false := beq_eq_false_iff_ne.mpr c18
               have c18b1 : ((rd l0 x6_2) != (rd l0 x7_3)) = true := bne_iff_ne.mpr c18
               have H' := Aside0.mk H
               clear H
               try go_wp2
               have n0_ := Aside0.mk (Z4n HO_141001.out)
               have n1_ := Aside0.mk (Z4n HO_142001.out)
               have n2_ := Aside0.mk (Z4e BK140.out)
               have n3_ := Aside0.mk (Z4e BK141.out)
               have n4_ := Aside0.mk (Z4j HB.out)
               clear HO_141001
               clear HO_142001
               clear BK140
               clear BK141
               clear HB
               have HO_141001 := n0_
               have HO_142001 := n1_
               have BK140 := n2_
               have BK141 := n3_
               have HB := n4_
               clear n0_ n1_ n2_ n3_ n4_
               have p143 : 0 ≤ (x6_2 : Int) := of_decide_eq_true (by first | (with_reducible assumption) | assumption)
               have q143 : x6_2 < (l0.length : Int) := of_decide_eq_true (by first | (with_reducible assumption) | assumption)
               obtain ⟨ad143, e143, hx143_0⟩ := Kd.at_int HR0.out x6_2 p143 q143
               have hw143_0 := hx143_0
               cases e143
               replace hx143_0 := (HB.out.cell (Z4g w _ hx143_0)).trans hx143_0
               replace p143 := eq_true p143
               replace q143 := eq_true q143
               have p144 : 0 ≤ (x7_3 : Int) := of_decide_eq_true (by first | (with_reducible assumption) | assumption)
               have q144 : x7_3 < (l0.length : Int) := of_decide_eq_true (by first | (with_reducible assumption) | assumption)
               obtain ⟨ad144, e144, hx144_0⟩ := Kd.at_int HR0.out x7_3 p144 q144
               have hw144_0 := hx144_0
               obtain rfl : ad143 = ad144 := (by injection e144)
               replace hx144_0 := (HB.out.cell (Z4g w _ hx144_0)).trans hx144_0
               replace p144 := eq_true p144
               replace q144 := eq_true q144
               refine start_ (n := 9) (S := fun w' => w'.cell? (ad143.add (x6_2).toNat) = some (.int .i64 (rd l0 x6_2)) ∧ w'.cell? (ad143.add (x7_3).toNat) = some (.int .i64 (rd l0 x7_3))) (ds := []) #[false, false, false, false, false, false, false, false, false] (by kernel_rfl) rfl rfl ⟨((HB.out.cell (Z4g w _ hw143_0)).trans hw143_0), ((HB.out.cell (Z4g w _ hw144_0)).trans hw144_0)⟩ (fun hHeld => ?_); refine with_tabW colloquylaw17_WindowOrder.tab12 colloquylaw17_WindowOrder.bits12 (fun HT_ HW_ => ?_)
               generalize wr.drew = w20 at HO_141001 HO_142001 BK140 BK141 HB hx143_0 hx144_0 hHeld ⊢
               refine pure_ (i := 0) (N := some 36) (v := ?_) (a' := ?_) #[true, false, false, false, false, false, false, false, false] rfl rfl (any_of HT_.out (by kernel_rfl)) (fun _ _ _ h => h) (Or.inl ⟨by rfl, ?_⟩) ?_ ?_
               rotate_left
               ·
                intro w'
                go_simp
                with_reducible rfl
               rotate_left
               ·
                simp only [Act.put, Z4a, Z4b, Z4c, i64_w, i32_w]
                rfl
               refine pure_ (i := 1) (N := some 37) (v := ?_) (a' := ?_) #[true, true, false, false, false, false, false, false, false] rfl rfl (any_of HT_.out (by kernel_rfl)) (fun _ _ _ h => h) (Or.inl ⟨by rfl, ?_⟩) ?_ ?_
               rotate_left
               ·
                intro w'
                go_simp
                with_reducible rfl
               rotate_left
               ·
                simp only [Act.put, Z4a, Z4b, Z4c, i64_w, i32_w]
                rfl
               refine pure_ (i := 2) (N := some 38) (v := ?_) (a' := ?_) #[true, true, true, false, false, false, false, false, false] rfl rfl (any_of HT_.out (by kernel_rfl)) (fun _ _ _ h => h) (Or.inl ⟨by rfl, ?_⟩) ?_ ?_
               rotate_left
               ·
                intro w'
                go_simp
                with_reducible rfl
               rotate_left
               ·
                simp only [Act.put, Z4a, Z4b, Z4c, i64_w, i32_w]
                rfl
               refine pure_ (i := 4) (N := some 40) (v := ?_) (a' := ?_) #[true, true, true, false, true, false, false, false, false] rfl rfl (any_of HT_.out (by kernel_rfl)) (fun _ _ _ h => h) (Or.inl ⟨by rfl, ?_⟩) ?_ ?_
               rotate_left
               ·
                intro w'
                go_simp
                with_reducible rfl
               rotate_left
               ·
                simp only [Act.put, Z4a, Z4b, Z4c, i64_w, i32_w]
                rfl
               refine pure_ (i := 5) (N := some 41) (v := ?_) (a' := ?_) #[true, true, true, false, true, true, false, false, false] rfl rfl (any_of HT_.out (by kernel_rfl)) (fun _ _ _ h => h) (Or.inl ⟨by rfl, ?_⟩) ?_ ?_
               rotate_left
               ·
                intro w'
                go_simp
                with_reducible rfl
               rotate_left
               ·
                simp only [Act.put, Z4a, Z4b, Z4c, i64_w, i32_w]
                rfl
               refine pure_ (i := 6) (N := some 42) (v := ?_) (a' := ?_) #[true, true, true, false, true, true, true, false, false] rfl rfl (any_of HT_.out (by kernel_rfl)) (fun _ _ _ h => h) (Or.inl ⟨by rfl, ?_⟩) ?_ ?_
               rotate_left
               ·
                intro w'
                go_simp
                with_reducible rfl
               rotate_left
               ·
                simp only [Act.put, Z4a, Z4b, Z4c, i64_w, i32_w]
                rfl
               refine take_ (i := 3) (N := some 39) (v := ?_) (a' := ?_) #[true, true, true, true, true, true, true, false, false] rfl rfl (take_ofW HT_.out HW_.out (by kernel_rfl)) (fun _ _ _ h => h) (Or.inl ⟨by rfl, ?_⟩) hHeld ?_ ?_
               rotate_left
               ·
                rintro w' ⟨s0, s1⟩
                go_simp
                with_reducible rfl
               rotate_left
               ·
                simp only [Act.put, Z4a, Z4b, Z4c, i64_w, i32_w]
                rfl
               refine take_ (i := 7) (N := some 43) (v := ?_) (a' := ?_) #[true, true, true, true, true, true, true, true, false] rfl rfl (take_ofW HT_.out HW_.out (by kernel_rfl)) (fun _ _ _ h => h) (Or.inl ⟨by rfl, ?_⟩) hHeld ?_ ?_
               rotate_left
               ·
                rintro w' ⟨s0, s1⟩
                go_simp
                with_reducible rfl
               rotate_left
               ·
                simp only [Act.put, Z4a, Z4b, Z4c, i64_w, i32_w]
                rfl
               refine pure_ (i := 8) (N := some 44) (v := ?_) (a' := ?_) #[true, true, true, true, true, true, true, true, true] rfl rfl (any_of HT_.out (by kernel_rfl)) (fun _ _ _ h => h) (Or.inl ⟨by rfl, ?_⟩) ?_ ?_
               rotate_left
               ·
                intro w'
                go_simp
                with_reducible rfl
               rotate_left
               ·
                simp only [Act.put, Z4a, Z4b, Z4c, i64_w, i32_w]
                rfl
               refine done_ (done_of HT_.out (by kernel_rfl)) ?_
               try go_wp2
               go_roundg k3
               case measure => have := HJ2.out; have := HK2.out; have := HK3.out; omega
               case rel => exact ⟨(wrap64 (x7_3 + 1)), (by first | rfl | (simp; done) | (simp [*]; done)), H', ⟨by have := HJ2.out; have := HK2.out; have := HK3.out; omega⟩, ⟨by (with_reducible repeat (first | apply Z4o | apply Z4m | apply Z4n)); exact HO_141001.out⟩, ⟨by (with_reducible repeat (first | apply Z4o | apply Z4m | apply Z4n)); exact HO_142001.out⟩, ⟨by (with_reducible repeat (first | refine Z4d ?_ _ | refine Z4e ?_ | refine Z4f ?_ _)); exact BK140.out⟩, ⟨by (with_reducible repeat (first | refine Z4d ?_ _ | refine Z4e ?_ | refine Z4f ?_ _)); exact BK141.out⟩, ⟨by repeat (first | (with_reducible first | exact HB.out | apply Z4k | apply Z4i | apply Z4j | refine Z4l ?_ GE140.out | refine Z4l ?_ GE141.out) | exact HB.out)⟩⟩
             ·
              rw [if_neg c17] at H
              exact absurd H (by simp)
            ·
             rw [if_neg c16] at H
             exact absurd H (by simp)
           ·
            rw [if_neg c15] at H
            exact absurd H (by simp)
          ·
           rw [if_neg c14] at H
           exact absurd H (by simp)
         ·
          rw [if_neg c13] at H
          have c13b0 : decide (x7_3 < x6_2) = false := decide_eq_false c13
          clear c13
          by_cases c21 : 0 ≤ x6_2
          ·
           rw [if_pos c21] at H
           have c21b0 : decide (0 ≤ x6_2) = true := decide_eq_true c21
           clear c21
           by_cases c22 : x6_2 < (l0.length : Int)
           ·
            rw [if_pos c22] at H
            have c22b0 : decide (x6_2 < (l0.length : Int)) = true := decide_eq_true c22
            clear c22
            replace H := Option.bind_eq_some_iff.mp H
            obtain ⟨⟨t147, t148, t151⟩, A230, H⟩ := H
            replace H : (if t151 = 0 then (if 0 ≤ (wrap64 ((wrap64 ((l0.length : Int) - 1)) - x6_2)) then (if (wrap64 ((wrap64 ((l0.length : Int) - 1)) - x6_2)) < (l0.length : Int) then ((window_Put.f k3 x142000_2 x142001_2 (rd l0 (wrap64 ((wrap64 ((l0.length : Int) - 1)) - x6_2))) 0 (rd l0 (wrap64 ((wrap64 ((l0.length : Int) - 1)) - x6_2))) (⟨#[]⟩ : ByteArray)).bind fun bt154 => (if bt154.2.2 = 0 then (colloquylaw17_WindowOrder.l0 k3 l0 (wrap64 (x6_2 + 1)) t147 t148 bt154.1 bt154.2.1) else (colloquylaw17_WindowOrder.l0 k3 l0 (wrap64 (x6_2 + 1)) t147 t148 x142000_2 x142001_2))) else (none)) else (none)) else (if 0 ≤ (wrap64 ((wrap64 ((l0.length : Int) - 1)) - x6_2)) then (if (wrap64 ((wrap64 ((l0.length : Int) - 1)) - x6_2)) < (l0.length : Int) then ((window_Put.f k3 x142000_2 x142001_2 (rd l0 (wrap64 ((wrap64 ((l0.length : Int) - 1)) - x6_2))) 0 (rd l0 (wrap64 ((wrap64 ((l0.length : Int) - 1)) - x6_2))) (⟨#[]⟩ : ByteArray)).bind fun bt161 => (if bt161.2.2 = 0 then (colloquylaw17_WindowOrder.l0 k3 l0 (wrap64 (x6_2 + 1)) x141000_2 x141001_2 bt161.1 bt161.2.1) else (colloquylaw17_WindowOrder.l0 k3 l0 (wrap64 (x6_2 + 1)) x141000_2 x141001_2 x142000_2 x142001_2))) else (none)) else (none))) = some r := H
            have A23 := Aside0.mk A230
            clear A230
            by_cases c24 : t151 = 0
            ·
             rw [if_pos c24] at H
             have c24b0 : (t151 == 0) = true := beq_iff_eq.mpr c24
             have c24b1 : (t151 != 0) = false := bne_eq_false_iff_eq.mpr c24
             clear c24
             obtain ⟨ji25, hji25⟩ : ∃ j_ : Int, (wrap64 ((wrap64 ((l0.length : Int) - 1)) - x6_2)) = j_ := ⟨_, rfl⟩
             replace H : (if 0 ≤ (ji25) then (if (ji25) < (l0.length : Int) then ((window_Put.f k3 x142000_2 x142001_2 (rd l0 (ji25)) 0 (rd l0 (ji25)) (⟨#[]⟩ : ByteArray)).bind fun bt154 => (if bt154.2.2 = 0 then (colloquylaw17_WindowOrder.l0 k3 l0 (wrap64 (x6_2 + 1)) t147 t148 bt154.1 bt154.2.1) else (colloquylaw17_WindowOrder.l0 k3 l0 (wrap64 (x6_2 + 1)) t147 t148 x142000_2 x142001_2))) else (none)) else (none)) = some r := by first | (rw [hji25] at H; exact H) | (simp only [hji25] at H ⊢; exact H)
             (try rw [hji25] at A23)
             have hji25w : (IntKind.i64.wrap ((wrap64 ((l0.length : Int) - 1)) - x6_2)) = ji25 := (i64_w _).trans hji25
             by_cases c26 : 0 ≤ (ji25)
             ·
              rw [if_pos c26] at H
              have c26b0 : decide (0 ≤ (ji25)) = true := decide_eq_true c26
              clear c26
              by_cases c27 : (ji25) < (l0.length : Int)
              ·
               rw [if_pos c27] at H
               have c27b0 : decide ((ji25) < (l0.length : Int)) = true := decide_eq_true c27
               clear c27
               replace H := Option.bind_eq_some_iff.mp H
               obtain ⟨⟨t154, t155, t158⟩, A280, H⟩ := H
               replace H : (if t158 = 0 then (colloquylaw17_WindowOrder.l0 k3 l0 (wrap64 (x6_2 + 1)) t147 t148 t154 t155) else (colloquylaw17_WindowOrder.l0 k3 l0 (wrap64 (x6_2 + 1)) t147 t148 x142000_2 x142001_2)) = some r := H
               have A28 := Aside0.mk A280
               clear A280
               by_cases c29 : t158 = 0
               ·
                rw [if_pos c29] at H
                have c29b0 : (t158 == 0) = true := beq_iff_eq.mpr c29
                have c29b1 : (t158 != 0) = false := bne_eq_false_iff_eq.mpr c29
                clear c29
                have H' := Aside0.mk H
                clear H
                obtain ⟨Ao30, co30, eo30⟩ := Kd.V_slice HO_141001.out
                subst eo30
                try go_wp2
                have n0_ := Aside0.mk (Z4n HO_141001.out)
                have n1_ := Aside0.mk (Z4n HO_142001.out)
                have n2_ := Aside0.mk (Z4e BK140.out)
                have n3_ := Aside0.mk (Z4e BK141.out)
                have n4_ := Aside0.mk (Z4j HB.out)
                clear HO_141001
                clear HO_142001
                clear BK140
                clear BK141
                clear HB
                have HO_141001 := n0_
                have HO_142001 := n1_
                have BK140 := n2_
                have BK141 := n3_
                have HB := n4_
                clear n0_ n1_ n2_ n3_ n4_
                have p145 : 0 ≤ (x6_2 : Int) := of_decide_eq_true (by first | (with_reducible assumption) | assumption)
                have q145 : x6_2 < (l0.length : Int) := of_decide_eq_true (by first | (with_reducible assumption) | assumption)
                obtain ⟨ad145, e145, hx145_0⟩ := Kd.at_int HR0.out x6_2 p145 q145
                have hw145_0 := hx145_0
                cases e145
                replace hx145_0 := (HB.out.cell (Z4g w _ hx145_0)).trans hx145_0
                replace p145 := eq_true p145
                replace q145 := eq_true q145
                have p146 : 0 ≤ (x6_2 : Int) := of_decide_eq_true (by first | (with_reducible assumption) | assumption)
                have q146 : x6_2 < (l0.length : Int) := of_decide_eq_true (by first | (with_reducible assumption) | assumption)
                obtain ⟨ad146, e146, hx146_0⟩ := Kd.at_int HR0.out x6_2 p146 q146
                have hw146_0 := hx146_0
                obtain rfl : ad145 = ad146 := (by injection e146)
                replace hx146_0 := (HB.out.cell (Z4g w _ hx146_0)).trans hx146_0
                replace p146 := eq_true p146
                replace q146 := eq_true q146
                refine start_ (n := 17) (S := fun w' => w'.cell? ⟨gb140, 0, none⟩ = some (.int .i64 x141000_2) ∧ w'.cell? ⟨gb140, 1, none⟩ = some (.slice Ao30 x141001_2.length co30) ∧ w'.cell? (ad145.add (x6_2).toNat) = some (.int .i64 (rd l0 x6_2)) ∧ w'.cell? (ad145.add (x6_2).toNat) = some (.int .i64 (rd l0 x6_2))) (ds := []) #[false, false, false, false, false, false, false, false, false, false, false, false, false, false, false, false, false] (by kernel_rfl) rfl rfl ⟨(Z4r BK140.out 0).trans rfl, (Z4r BK140.out 1).trans rfl, ((HB.out.cell (Z4g w _ hw145_0)).trans hw145_0), ((HB.out.cell (Z4g w _ hw146_0)).trans hw146_0)⟩ (fun hHeld => ?_); refine with_tabW colloquylaw17_WindowOrder.tab14 colloquylaw17_WindowOrder.bits14 (fun HT_ HW_ => ?_)
                generalize wr.drew = w31 at HO_141001 HO_142001 BK140 BK141 HB hx145_0 hx146_0 hHeld ⊢
                refine pure_ (i := 1) (N := some 47) (v := ?_) (a' := ?_) #[false, true, false, false, false, false, false, false, false, false, false, false, false, false, false, false, false] rfl rfl (any_of HT_.out (by kernel_rfl)) (fun _ _ _ h => h) (Or.inl ⟨by rfl, ?_⟩) ?_ ?_
                rotate_left
                ·
                 intro w'
                 go_simp
                 with_reducible rfl
                rotate_left
                ·
                 simp only [Act.put, Z4a, Z4b, Z4c, i64_w, i32_w]
                 rfl
                refine pure_ (i := 2) (N := some 48) (v := ?_) (a' := ?_) #[false, true, true, false, false, false, false, false, false, false, false, false, false, false, false, false, false] rfl rfl (any_of HT_.out (by kernel_rfl)) (fun _ _ _ h => h) (Or.inl ⟨by rfl, ?_⟩) ?_ ?_
                rotate_left
                ·
                 intro w'
                 go_simp
                 with_reducible rfl
                rotate_left
                ·
                 simp only [Act.put, Z4a, Z4b, Z4c, i64_w, i32_w]
                 rfl
                refine pure_ (i := 3) (N := some 49) (v := ?_) (a' := ?_) #[false, true, true, true, false, false, false, false, false, false, false, false, false, false, false, false, false] rfl rfl (any_of HT_.out (by kernel_rfl)) (fun _ _ _ h => h) (Or.inl ⟨by rfl, ?_⟩) ?_ ?_
                rotate_left
                ·
                 intro w'
                 go_simp
                 with_reducible rfl
                rotate_left
                ·
                 simp only [Act.put, Z4a, Z4b, Z4c, i64_w, i32_w]
                 rfl
                refine pure_ (i := 5) (N := some 51) (v := ?_) (a' := ?_) #[false, true, true, true, false, true, false, false, false, false, false, false, false, false, false, false, false] rfl rfl (any_of HT_.out (by kernel_rfl)) (fun _ _ _ h => h) (Or.inl ⟨by rfl, ?_⟩) ?_ ?_
                rotate_left
                ·
                 intro w'
                 go_simp
                 with_reducible rfl
                rotate_left
                ·
                 simp only [Act.put, Z4a, Z4b, Z4c, i64_w, i32_w]
                 rfl
                refine pure_ (i := 6) (N := some 52) (v := ?_) (a' := ?_) #[false, true, true, true, false, true, true, false, false, false, false, false, false, false, false, false, false] rfl rfl (any_of HT_.out (by kernel_rfl)) (fun _ _ _ h => h) (Or.inl ⟨by rfl, ?_⟩) ?_ ?_
                rotate_left
                ·
                 intro w'
                 go_simp
                 with_reducible rfl
                rotate_left
                ·
                 simp only [Act.put, Z4a, Z4b, Z4c, i64_w, i32_w]
                 rfl
                refine pure_ (i := 7) (N := some 53) (v := ?_) (a' := ?_) #[false, true, true, true, false, true, true, true, false, false, false, false, false, false, false, false, false] rfl rfl (any_of HT_.out (by kernel_rfl)) (fun _ _ _ h => h) (Or.inl ⟨by rfl, ?_⟩) ?_ ?_
                rotate_left
                ·
                 intro w'
                 go_simp
                 with_reducible rfl
                rotate_left
                ·
                 simp only [Act.put, Z4a, Z4b, Z4c, i64_w, i32_w]
                 rfl
                refine take_ (i := 0) (N := some 46) (v := ?_) (a' := ?_) #[true, true, true, true, false, true, true, true, false, false, false, false, false, false, false, false, false] rfl rfl (take_ofW HT_.out HW_.out (by kernel_rfl)) (fun _ _ _ h => h) (Or.inl ⟨by rfl, ?_⟩) hHeld ?_ ?_
                rotate_left
                ·
                 rintro w' ⟨s0, s1, s2, s3⟩
                 go_simp
                 with_reducible rfl
                rotate_left
                ·
                 simp only [Act.put, Z4a, Z4b, Z4c, i64_w, i32_w]
                 rfl
                refine take_ (i := 4) (N := some 50) (v := ?_) (a' := ?_) #[true, true, true, true, true, true, true, true, false, false, false, false, false, false, false, false, false] rfl rfl (take_ofW HT_.out HW_.out (by kernel_rfl)) (fun _ _ _ h => h) (Or.inl ⟨by rfl, ?_⟩) hHeld ?_ ?_
                rotate_left
                ·
                 rintro w' ⟨s0, s1, s2, s3⟩
                 go_simp
                 with_reducible rfl
                rotate_left
                ·
                 simp only [Act.put, Z4a, Z4b, Z4c, i64_w, i32_w]
                 rfl
                refine take_ (i := 8) (N := some 54) (v := ?_) (a' := ?_) #[true, true, true, true, true, true, true, true, true, false, false, false, false, false, false, false, false] rfl rfl (take_ofW HT_.out HW_.out (by kernel_rfl)) (fun _ _ _ h => h) (Or.inl ⟨by rfl, ?_⟩) hHeld ?_ ?_
                rotate_left
                ·
                 rintro w' ⟨s0, s1, s2, s3⟩
                 go_simp
                 with_reducible rfl
                rotate_left
                ·
                 simp only [Act.put, Z4a, Z4b, Z4c, i64_w, i32_w]
                 rfl
                refine pure_ (i := 9) (N := some 55) (v := ?_) (a' := ?_) #[true, true, true, true, true, true, true, true, true, true, false, false, false, false, false, false, false] rfl rfl (any_of HT_.out (by kernel_rfl)) (fun _ _ _ h => h) (Or.inl ⟨by rfl, ?_⟩) ?_ ?_
                rotate_left
                ·
                 intro w'
                 go_simp
                 with_reducible rfl
                rotate_left
                ·
                 simp only [Act.put, Z4a, Z4b, Z4c, i64_w, i32_w]
                 rfl
                refine join_ (σ := Value × Nat) 2 #[true, true, true, true, true, true, true, true, true, true, true, true, true, true, true, false, false] (fun s_ => [(56, .tuple #[.agg #[.int .i64 t147, s_.1], .int .i64 t151]), (8, .pointer (some ⟨s_.2, 0, none⟩)), (45, .tuple #[.agg #[.int .i64 t147, s_.1], .int .i64 t151]), (57, .agg #[.int .i64 t147, s_.1]), (58, .int .i64 t151)]) (fun s_ w' => (w'.cell? ⟨gb140, 0, none⟩ = some (.int .i64 x141000_2) ∧ w'.cell? ⟨gb140, 1, none⟩ = some (.slice Ao30 x141001_2.length co30) ∧ w'.cell? (ad145.add (x6_2).toNat) = some (.int .i64 (rd l0 x6_2)) ∧ w'.cell? (ad145.add (x6_2).toNat) = some (.int .i64 (rd l0 x6_2))) ∧ (Kd.V k42 42 w' w.heap.size (fun k_ => k_ ≠ gb140 ∧ k_ ≠ gb141 ∧ k_ ≠ s_.2) s_.1 t148) ∧ (Kd.V k42 42 w' w.heap.size (fun k_ => k_ ≠ gb140 ∧ k_ ≠ gb141 ∧ k_ ≠ s_.2) (.slice Ao30 x141001_2.length co30) x141001_2) ∧ (Kd.V k42 42 w' w.heap.size (fun k_ => k_ ≠ gb140 ∧ k_ ≠ gb141 ∧ k_ ≠ s_.2) u142001 x142001_2) ∧ (w'.heap[gb140]? = some (.cells #[.int .i64 x141000_2, .slice Ao30 x141001_2.length co30] 24 (0, 0))) ∧ (w'.heap[gb141]? = some (.cells #[.int .i64 x142000_2, u142001] 24 (0, 0))) ∧ (w'.heap[s_.2]? = some (.cells #[.int .i64 0, .slice none 0 0] 24 (0, 0))) ∧ (w.heap.size ≤ s_.2) ∧ (w.heap.size ≤ s_.2) ∧ (gb140 ≠ s_.2) ∧ (s_.2 ≠ gb140) ∧ (gb141 ≠ s_.2) ∧ (s_.2 ≠ gb141) ∧ (Below w.heap.size w w')) ?_ ?_
                rotate_left
                ·
                 intro hCont
                 refine two_ (i := 10) (j := 14) (Ni := some 56) (Nj := some 8) #[true, true, true, true, true, true, true, true, true, true, true, false, false, false, false, false, false] #[true, true, true, true, true, true, true, true, true, true, false, false, false, false, true, false, false] rfl rfl rfl rfl (two_of HT_.out (by kernel_rfl)) (by decide) (by decide) (fun K hK => ?_) (fun K hK => ?_)
                 ·
                  skip
                  refine goes_ Try.func12 (by kernel_rfl) rfl #[.agg #[.int .i64 x141000_2, .slice Ao30 x141001_2.length co30], .int .i64 (rd l0 x6_2), .agg #[.int .i64 0, .int .i64 (rd l0 x6_2), .string (⟨#[]⟩ : ByteArray)]] (by rfl) rfl rfl (by (try simp only [List.map_toArray, List.map_cons, List.map_nil]); first | done | rfl | (simp only [List.length_drop, List.length_take]; rfl)) ?_
                  with_reducible refine (window_Put.calls k3 x141000_2 _ _ x141001_2 (rd l0 x6_2) 0 (rd l0 x6_2) (⟨#[]⟩ : ByteArray) t147 t148 t151 _ ?side1 ?side2 A23.out).mono ?_
                  (case side1 => repeat (first | exact (Kd.V_reads' HO_141001.out).2.2 | (with_reducible refine Kd.C_alloc ?_ _) | (with_reducible refine Kd.C_drewN ?_ _) | (with_reducible refine Kd.C_drew ?_)))
                  (case side2 => exact (Kd.V_reads' HO_141001.out).2.1)
                  rintro e w32 ⟨v149, rfl, ho0, hb⟩
                  refine ⟨_, rfl, ?_⟩
                  have n0_ := Aside0.mk (Z4q (by (with_reducible repeat (first | apply Z4o | apply Z4m | apply Z4n)); exact HO_141001.out) hb)
                  have n1_ := Aside0.mk (Z4q (by (with_reducible repeat (first | apply Z4o | apply Z4m | apply Z4n)); exact HO_142001.out) hb)
                  have n2_ := Aside0.mk (Kd.V_lower (Z4p (ok' := fun k_ => k_ ≠ gb140 ∧ k_ ≠ gb141) ho0 (fun k_ hk_ => ⟨(Kd.freshB (g := gb140) (o := .cells #[.int .i64 x141000_2, .slice Ao30 x141001_2.length co30] 24 (0, 0)) (by (with_reducible repeat (first | refine Z4d ?_ _ | refine Z4e ?_ | refine Z4f ?_ _)); exact BK140.out) k_ hk_), (Kd.freshB (g := gb141) (o := .cells #[.int .i64 x142000_2, u142001] 24 (0, 0)) (by (with_reducible repeat (first | refine Z4d ?_ _ | refine Z4e ?_ | refine Z4f ?_ _)); exact BK141.out) k_ hk_)⟩)) (below_size (by repeat (first | (with_reducible first | exact HB.out | apply Z4k | apply Z4i | apply Z4j | refine Z4l ?_ GE140.out | refine Z4l ?_ GE141.out) | exact HB.out))))
                  have n3_ := Aside0.mk (blk_below (g := gb140) (o := .cells #[.int .i64 x141000_2, .slice Ao30 x141001_2.length co30] 24 (0, 0)) (by (with_reducible repeat (first | refine Z4d ?_ _ | refine Z4e ?_ | refine Z4f ?_ _)); exact BK140.out) hb)
                  have n4_ := Aside0.mk (blk_below (g := gb141) (o := .cells #[.int .i64 x142000_2, u142001] 24 (0, 0)) (by (with_reducible repeat (first | refine Z4d ?_ _ | refine Z4e ?_ | refine Z4f ?_ _)); exact BK141.out) hb)
                  have n5_ := Aside0.mk (below_step (by repeat (first | (with_reducible first | exact HB.out | apply Z4k | apply Z4i | apply Z4j | refine Z4l ?_ GE140.out | refine Z4l ?_ GE141.out) | exact HB.out)) hb)
                  clear HO_141001
                  clear HO_142001
                  clear BK140
                  clear BK141
                  clear HB
                  have HO_141001 := n0_
                  have HO_142001 := n1_
                  have HO150 := n2_
                  have BK140 := n3_
                  have BK141 := n4_
                  have HB := n5_
                  clear n0_ n1_ n2_ n3_ n4_ n5_
                  (try clear hb)
                  (try clear hb2)
                  (try clear hk)
                  (try clear hi)
                  (try clear ho0)
                  refine hK.out _ _ ⟨(Z4r BK140.out 0).trans rfl, (Z4r BK140.out 1).trans rfl, ((HB.out.cell (Z4g w _ hw145_0)).trans hw145_0), ((HB.out.cell (Z4g w _ hw146_0)).trans hw146_0)⟩ (fun hHeld => ?_)
                  clear hK K
                  refine norm_ (a' := ?_) ?_ ?_
                  rotate_left
                  ·
                   show Act.put _ (some 56) _ = _
                   simp only [Act.put, Z4a, Z4b, Z4c, i64_w, i32_w]
                   rfl
                  refine pure_ (i := 11) (N := some 45) (v := ?_) (a' := ?_) #[true, true, true, true, true, true, true, true, true, true, true, true, false, false, false, false, false] rfl rfl (any_of HT_.out (by kernel_rfl)) (fun _ _ _ h => h) (Or.inl ⟨by rfl, ?_⟩) ?_ ?_
                  rotate_left
                  ·
                   intro w'
                   go_simp
                   with_reducible rfl
                  rotate_left
                  ·
                   simp only [Act.put, Z4a, Z4b, Z4c, i64_w, i32_w]
                   rfl
                  refine pure_ (i := 12) (N := some 57) (v := ?_) (a' := ?_) #[true, true, true, true, true, true, true, true, true, true, true, true, true, false, false, false, false] rfl rfl (any_of HT_.out (by kernel_rfl)) (fun _ _ _ h => h) (Or.inl ⟨by rfl, ?_⟩) ?_ ?_
                  rotate_left
                  ·
                   intro w'
                   go_simp
                   with_reducible rfl
                  rotate_left
                  ·
                   simp only [Act.put, Z4a, Z4b, Z4c, i64_w, i32_w]
                   rfl
                  refine pure_ (i := 13) (N := some 58) (v := ?_) (a' := ?_) #[true, true, true, true, true, true, true, true, true, true, true, true, true, true, false, false, false] rfl rfl (any_of HT_.out (by kernel_rfl)) (fun _ _ _ h => h) (Or.inl ⟨by rfl, ?_⟩) ?_ ?_
                  rotate_left
                  ·
                   intro w'
                   go_simp
                   with_reducible rfl
                  rotate_left
                  ·
                   simp only [Act.put, Z4a, Z4b, Z4c, i64_w, i32_w]
                   rfl
                  refine one_ (i := 14) (N := some 8) #[true, true, true, true, true, true, true, true, true, true, true, true, true, true, true, false, false] rfl rfl (one_of HT_.out (by kernel_rfl)) (by decide) (fun K hK => ?_)
                  refine box_step ?hg (N := 8) ?hd (cs := #[.int .i64 0, .slice none 0 0]) (t := 24) ?hr ?_; (case hd => rfl); (case hg => rfl); (case hr => first | (go_simp; done) | (go_simp; rfl))
                  intro gb152 hg w33 hbox hb
                  have n0_ := Aside0.mk (Z4q (Kd.V_elderB (by (with_reducible repeat (first | apply Z4o | apply Z4m | apply Z4n)); exact HO_141001.out) gb152 (Nat.le_of_eq hg.symm)) hb)
                  have n1_ := Aside0.mk (Z4q (Kd.V_elderB (by (with_reducible repeat (first | apply Z4o | apply Z4m | apply Z4n)); exact HO_142001.out) gb152 (Nat.le_of_eq hg.symm)) hb)
                  have n2_ := Aside0.mk (Z4q (Kd.V_elderB (by (with_reducible repeat (first | apply Z4o | apply Z4m | apply Z4n)); exact HO150.out) gb152 (Nat.le_of_eq hg.symm)) hb)
                  have n3_ := Aside0.mk (blk_below (g := gb140) (o := .cells #[.int .i64 x141000_2, .slice Ao30 x141001_2.length co30] 24 (0, 0)) (by (with_reducible repeat (first | refine Z4d ?_ _ | refine Z4e ?_ | refine Z4f ?_ _)); exact BK140.out) hb)
                  have n4_ := Aside0.mk (blk_below (g := gb141) (o := .cells #[.int .i64 x142000_2, u142001] 24 (0, 0)) (by (with_reducible repeat (first | refine Z4d ?_ _ | refine Z4e ?_ | refine Z4f ?_ _)); exact BK141.out) hb)
                  have n5_ := Aside0.mk (below_step (by repeat (first | (with_reducible first | exact HB.out | apply Z4k | apply Z4i | apply Z4j | refine Z4l ?_ GE140.out | refine Z4l ?_ GE141.out) | exact HB.out)) hb)
                  have n6_ := Aside0.mk (hbox)
                  have n7_ := Aside0.mk ((by rw [hg]; exact (below_size (by repeat (first | (with_reducible first | exact HB.out | apply Z4k | apply Z4i | apply Z4j | refine Z4l ?_ GE140.out | refine Z4l ?_ GE141.out) | exact HB.out))) : w.heap.size ≤ gb152))
                  have n8_ := Aside0.mk ((by rw [hg]; exact (below_size (by repeat (first | (with_reducible first | exact HB.out | apply Z4k | apply Z4i | apply Z4j | refine Z4l ?_ GE140.out | refine Z4l ?_ GE141.out) | exact HB.out))) : w.heap.size ≤ gb152))
                  have n9_ := Aside0.mk ((by rw [hg]; exact Nat.ne_of_lt (blk_lt (g := gb140) (o := .cells #[.int .i64 x141000_2, .slice Ao30 x141001_2.length co30] 24 (0, 0)) (by (with_reducible repeat (first | refine Z4d ?_ _ | refine Z4e ?_ | refine Z4f ?_ _)); exact BK140.out)) : gb140 ≠ gb152))
                  have n10_ := Aside0.mk ((by rw [hg]; exact Nat.ne_of_gt (blk_lt (g := gb140) (o := .cells #[.int .i64 x141000_2, .slice Ao30 x141001_2.length co30] 24 (0, 0)) (by (with_reducible repeat (first | refine Z4d ?_ _ | refine Z4e ?_ | refine Z4f ?_ _)); exact BK140.out)) : gb152 ≠ gb140))
                  have n11_ := Aside0.mk ((by rw [hg]; exact Nat.ne_of_lt (blk_lt (g := gb141) (o := .cells #[.int .i64 x142000_2, u142001] 24 (0, 0)) (by (with_reducible repeat (first | refine Z4d ?_ _ | refine Z4e ?_ | refine Z4f ?_ _)); exact BK141.out)) : gb141 ≠ gb152))
                  have n12_ := Aside0.mk ((by rw [hg]; exact Nat.ne_of_gt (blk_lt (g := gb141) (o := .cells #[.int .i64 x142000_2, u142001] 24 (0, 0)) (by (with_reducible repeat (first | refine Z4d ?_ _ | refine Z4e ?_ | refine Z4f ?_ _)); exact BK141.out)) : gb152 ≠ gb141))
                  clear HO_141001
                  clear HO_142001
                  clear HO150
                  clear BK140
                  clear BK141
                  clear HB
                  have HO_141001 := n0_
                  have HO_142001 := n1_
                  have HO150 := n2_
                  have BK140 := n3_
                  have BK141 := n4_
                  have HB := n5_
                  have BK152 := n6_
                  have GW152 := n7_
                  have GE152 := n8_
                  have NB140_152 := n9_
                  have NB152_140 := n10_
                  have NB141_152 := n11_
                  have NB152_141 := n12_
                  clear n0_ n1_ n2_ n3_ n4_ n5_ n6_ n7_ n8_ n9_ n10_ n11_ n12_
                  clear hb hbox hg
                  refine hK.out _ _ ⟨(Z4r BK140.out 0).trans rfl, (Z4r BK140.out 1).trans rfl, ((HB.out.cell (Z4g w _ hw145_0)).trans hw145_0), ((HB.out.cell (Z4g w _ hw146_0)).trans hw146_0)⟩ (fun hHeld => ?_)
                  clear hK K
                  refine norm_ (a' := ?_) ?_ ?_
                  rotate_left
                  ·
                   show Act.put _ (some 8) _ = _
                   simp only [Act.put, Z4a, Z4b, Z4c, i64_w, i32_w]
                   rfl
                  exact norm_ (by simp only [putAll, Act.put, List.setIfInBounds_toArray, List.set_cons_zero, List.set_cons_succ]) (hCont (v149, gb152) _ ⟨hHeld, (by (with_reducible repeat (first | apply Z4o | apply Z4m | apply Z4n)); exact Z4p HO150.out (fun _ hk => ⟨hk.1.1, ⟨hk.1.2, hk.2⟩⟩)), (by (with_reducible repeat (first | apply Z4o | apply Z4m | apply Z4n)); exact Z4p HO_141001.out (fun _ hk => ⟨hk.1.1, ⟨hk.1.2, hk.2⟩⟩)), (by (with_reducible repeat (first | apply Z4o | apply Z4m | apply Z4n)); exact Z4p HO_142001.out (fun _ hk => ⟨hk.1.1, ⟨hk.1.2, hk.2⟩⟩)), (by (with_reducible repeat (first | refine Z4d ?_ _ | refine Z4e ?_ | refine Z4f ?_ _)); exact BK140.out), (by (with_reducible repeat (first | refine Z4d ?_ _ | refine Z4e ?_ | refine Z4f ?_ _)); exact BK141.out), (by (with_reducible repeat (first | refine Z4d ?_ _ | refine Z4e ?_ | refine Z4f ?_ _)); exact BK152.out), GW152.out, GE152.out, NB140_152.out, NB152_140.out, NB141_152.out, NB152_141.out, (by repeat (first | (with_reducible first | exact HB.out | apply Z4k | apply Z4i | apply Z4j | refine Z4l ?_ GE140.out | refine Z4l ?_ GE141.out | refine Z4l ?_ GE152.out) | exact HB.out))⟩)
                 ·
                  skip
                  refine box_step ?hg (N := 8) ?hd (cs := #[.int .i64 0, .slice none 0 0]) (t := 24) ?hr ?_; (case hd => rfl); (case hg => rfl); (case hr => first | (go_simp; done) | (go_simp; rfl))
                  intro gb152 hg w32 hbox hb
                  have n0_ := Aside0.mk (Z4q (Kd.V_elderB (by (with_reducible repeat (first | apply Z4o | apply Z4m | apply Z4n)); exact HO_141001.out) gb152 (Nat.le_of_eq hg.symm)) hb)
                  have n1_ := Aside0.mk (Z4q (Kd.V_elderB (by (with_reducible repeat (first | apply Z4o | apply Z4m | apply Z4n)); exact HO_142001.out) gb152 (Nat.le_of_eq hg.symm)) hb)
                  have n2_ := Aside0.mk (blk_below (g := gb140) (o := .cells #[.int .i64 x141000_2, .slice Ao30 x141001_2.length co30] 24 (0, 0)) (by (with_reducible repeat (first | refine Z4d ?_ _ | refine Z4e ?_ | refine Z4f ?_ _)); exact BK140.out) hb)
                  have n3_ := Aside0.mk (blk_below (g := gb141) (o := .cells #[.int .i64 x142000_2, u142001] 24 (0, 0)) (by (with_reducible repeat (first | refine Z4d ?_ _ | refine Z4e ?_ | refine Z4f ?_ _)); exact BK141.out) hb)
                  have n4_ := Aside0.mk (below_step (by repeat (first | (with_reducible first | exact HB.out | apply Z4k | apply Z4i | apply Z4j | refine Z4l ?_ GE140.out | refine Z4l ?_ GE141.out) | exact HB.out)) hb)
                  have n5_ := Aside0.mk (hbox)
                  have n6_ := Aside0.mk ((by rw [hg]; exact (below_size (by repeat (first | (with_reducible first | exact HB.out | apply Z4k | apply Z4i | apply Z4j | refine Z4l ?_ GE140.out | refine Z4l ?_ GE141.out) | exact HB.out))) : w.heap.size ≤ gb152))
                  have n7_ := Aside0.mk ((by rw [hg]; exact (below_size (by repeat (first | (with_reducible first | exact HB.out | apply Z4k | apply Z4i | apply Z4j | refine Z4l ?_ GE140.out | refine Z4l ?_ GE141.out) | exact HB.out))) : w.heap.size ≤ gb152))
                  have n8_ := Aside0.mk ((by rw [hg]; exact Nat.ne_of_lt (blk_lt (g := gb140) (o := .cells #[.int .i64 x141000_2, .slice Ao30 x141001_2.length co30] 24 (0, 0)) (by (with_reducible repeat (first | refine Z4d ?_ _ | refine Z4e ?_ | refine Z4f ?_ _)); exact BK140.out)) : gb140 ≠ gb152))
                  have n9_ := Aside0.mk ((by rw [hg]; exact Nat.ne_of_gt (blk_lt (g := gb140) (o := .cells #[.int .i64 x141000_2, .slice Ao30 x141001_2.length co30] 24 (0, 0)) (by (with_reducible repeat (first | refine Z4d ?_ _ | refine Z4e ?_ | refine Z4f ?_ _)); exact BK140.out)) : gb152 ≠ gb140))
                  have n10_ := Aside0.mk ((by rw [hg]; exact Nat.ne_of_lt (blk_lt (g := gb141) (o := .cells #[.int .i64 x142000_2, u142001] 24 (0, 0)) (by (with_reducible repeat (first | refine Z4d ?_ _ | refine Z4e ?_ | refine Z4f ?_ _)); exact BK141.out)) : gb141 ≠ gb152))
                  have n11_ := Aside0.mk ((by rw [hg]; exact Nat.ne_of_gt (blk_lt (g := gb141) (o := .cells #[.int .i64 x142000_2, u142001] 24 (0, 0)) (by (with_reducible repeat (first | refine Z4d ?_ _ | refine Z4e ?_ | refine Z4f ?_ _)); exact BK141.out)) : gb152 ≠ gb141))
                  clear HO_141001
                  clear HO_142001
                  clear BK140
                  clear BK141
                  clear HB
                  have HO_141001 := n0_
                  have HO_142001 := n1_
                  have BK140 := n2_
                  have BK141 := n3_
                  have HB := n4_
                  have BK152 := n5_
                  have GW152 := n6_
                  have GE152 := n7_
                  have NB140_152 := n8_
                  have NB152_140 := n9_
                  have NB141_152 := n10_
                  have NB152_141 := n11_
                  clear n0_ n1_ n2_ n3_ n4_ n5_ n6_ n7_ n8_ n9_ n10_ n11_
                  clear hb hbox hg
                  refine hK.out _ _ ⟨(Z4r BK140.out 0).trans rfl, (Z4r BK140.out 1).trans rfl, ((HB.out.cell (Z4g w _ hw145_0)).trans hw145_0), ((HB.out.cell (Z4g w _ hw146_0)).trans hw146_0)⟩ (fun hHeld => ?_)
                  clear hK K
                  refine norm_ (a' := ?_) ?_ ?_
                  rotate_left
                  ·
                   show Act.put _ (some 8) _ = _
                   simp only [Act.put, Z4a, Z4b, Z4c, i64_w, i32_w]
                   rfl
                  refine one_ (i := 10) (N := some 56) #[true, true, true, true, true, true, true, true, true, true, true, false, false, false, true, false, false] rfl rfl (one_of HT_.out (by kernel_rfl)) (by decide) (fun K hK => ?_)
                  refine goes_ Try.func12 (by kernel_rfl) rfl #[.agg #[.int .i64 x141000_2, .slice Ao30 x141001_2.length co30], .int .i64 (rd l0 x6_2), .agg #[.int .i64 0, .int .i64 (rd l0 x6_2), .string (⟨#[]⟩ : ByteArray)]] (by rfl) rfl rfl (by (try simp only [List.map_toArray, List.map_cons, List.map_nil]); first | done | rfl | (simp only [List.length_drop, List.length_take]; rfl)) ?_
                  with_reducible refine (window_Put.calls k3 x141000_2 _ _ x141001_2 (rd l0 x6_2) 0 (rd l0 x6_2) (⟨#[]⟩ : ByteArray) t147 t148 t151 _ ?side1 ?side2 A23.out).mono ?_
                  (case side1 => repeat (first | exact (Kd.V_reads' HO_141001.out).2.2 | (with_reducible refine Kd.C_alloc ?_ _) | (with_reducible refine Kd.C_drewN ?_ _) | (with_reducible refine Kd.C_drew ?_)))
                  (case side2 => exact (Kd.V_reads' HO_141001.out).2.1)
                  rintro e w33 ⟨v149, rfl, ho0, hb⟩
                  refine ⟨_, rfl, ?_⟩
                  have n0_ := Aside0.mk (Z4q (by (with_reducible repeat (first | apply Z4o | apply Z4m | apply Z4n)); exact HO_141001.out) hb)
                  have n1_ := Aside0.mk (Z4q (by (with_reducible repeat (first | apply Z4o | apply Z4m | apply Z4n)); exact HO_142001.out) hb)
                  have n2_ := Aside0.mk (Kd.V_lower (Z4p (ok' := fun k_ => k_ ≠ gb140 ∧ k_ ≠ gb141 ∧ k_ ≠ gb152) ho0 (fun k_ hk_ => ⟨(Kd.freshB (g := gb140) (o := .cells #[.int .i64 x141000_2, .slice Ao30 x141001_2.length co30] 24 (0, 0)) (by (with_reducible repeat (first | refine Z4d ?_ _ | refine Z4e ?_ | refine Z4f ?_ _)); exact BK140.out) k_ hk_), (Kd.freshB (g := gb141) (o := .cells #[.int .i64 x142000_2, u142001] 24 (0, 0)) (by (with_reducible repeat (first | refine Z4d ?_ _ | refine Z4e ?_ | refine Z4f ?_ _)); exact BK141.out) k_ hk_), (Kd.freshB (g := gb152) (o := .cells #[.int .i64 0, .slice none 0 0] 24 (0, 0)) (by (with_reducible repeat (first | refine Z4d ?_ _ | refine Z4e ?_ | refine Z4f ?_ _)); exact BK152.out) k_ hk_)⟩)) (below_size (by repeat (first | (with_reducible first | exact HB.out | apply Z4k | apply Z4i | apply Z4j | refine Z4l ?_ GE140.out | refine Z4l ?_ GE141.out | refine Z4l ?_ GE152.out) | exact HB.out))))
                  have n3_ := Aside0.mk (blk_below (g := gb140) (o := .cells #[.int .i64 x141000_2, .slice Ao30 x141001_2.length co30] 24 (0, 0)) (by (with_reducible repeat (first | refine Z4d ?_ _ | refine Z4e ?_ | refine Z4f ?_ _)); exact BK140.out) hb)
                  have n4_ := Aside0.mk (blk_below (g := gb141) (o := .cells #[.int .i64 x142000_2, u142001] 24 (0, 0)) (by (with_reducible repeat (first | refine Z4d ?_ _ | refine Z4e ?_ | refine Z4f ?_ _)); exact BK141.out) hb)
                  have n5_ := Aside0.mk (blk_below (g := gb152) (o := .cells #[.int .i64 0, .slice none 0 0] 24 (0, 0)) (by (with_reducible repeat (first | refine Z4d ?_ _ | refine Z4e ?_ | refine Z4f ?_ _)); exact BK152.out) hb)
                  have n6_ := Aside0.mk (below_step (by repeat (first | (with_reducible first | exact HB.out | apply Z4k | apply Z4i | apply Z4j | refine Z4l ?_ GE140.out | refine Z4l ?_ GE141.out | refine Z4l ?_ GE152.out) | exact HB.out)) hb)
                  clear HO_141001
                  clear HO_142001
                  clear BK140
                  clear BK141
                  clear BK152
                  clear HB
                  have HO_141001 := n0_
                  have HO_142001 := n1_
                  have HO150 := n2_
                  have BK140 := n3_
                  have BK141 := n4_
                  have BK152 := n5_
                  have HB := n6_
                  clear n0_ n1_ n2_ n3_ n4_ n5_ n6_
                  (try clear hb)
                  (try clear hb2)
                  (try clear hk)
                  (try clear hi)
                  (try clear ho0)
                  refine hK.out _ _ ⟨(Z4r BK140.out 0).trans rfl, (Z4r BK140.out 1).trans rfl, ((HB.out.cell (Z4g w _ hw145_0)).trans hw145_0), ((HB.out.cell (Z4g w _ hw146_0)).trans hw146_0)⟩ (fun hHeld => ?_)
                  clear hK K
                  refine norm_ (a' := ?_) ?_ ?_
                  rotate_left
                  ·
                   show Act.put _ (some 56) _ = _
                   simp only [Act.put, Z4a, Z4b, Z4c, i64_w, i32_w]
                   rfl
                  refine pure_ (i := 11) (N := some 45) (v := ?_) (a' := ?_) #[true, true, true, true, true, true, true, true, true, true, true, true, false, false, true, false, false] rfl rfl (any_of HT_.out (by kernel_rfl)) (fun _ _ _ h => h) (Or.inl ⟨by rfl, ?_⟩) ?_ ?_
                  rotate_left
                  ·
                   intro w'
                   go_simp
                   with_reducible rfl
                  rotate_left
                  ·
                   simp only [Act.put, Z4a, Z4b, Z4c, i64_w, i32_w]
                   rfl
                  refine pure_ (i := 12) (N := some 57) (v := ?_) (a' := ?_) #[true, true, true, true, true, true, true, true, true, true, true, true, true, false, true, false, false] rfl rfl (any_of HT_.out (by kernel_rfl)) (fun _ _ _ h => h) (Or.inl ⟨by rfl, ?_⟩) ?_ ?_
                  rotate_left
                  ·
                   intro w'
                   go_simp
                   with_reducible rfl
                  rotate_left
                  ·
                   simp only [Act.put, Z4a, Z4b, Z4c, i64_w, i32_w]
                   rfl
                  refine pure_ (i := 13) (N := some 58) (v := ?_) (a' := ?_) #[true, true, true, true, true, true, true, true, true, true, true, true, true, true, true, false, false] rfl rfl (any_of HT_.out (by kernel_rfl)) (fun _ _ _ h => h) (Or.inl ⟨by rfl, ?_⟩) ?_ ?_
                  rotate_left
                  ·
                   intro w'
                   go_simp
                   with_reducible rfl
                  rotate_left
                  ·
                   simp only [Act.put, Z4a, Z4b, Z4c, i64_w, i32_w]
                   rfl
                  exact norm_ (by simp only [putAll, Act.put, List.setIfInBounds_toArray, List.set_cons_zero, List.set_cons_succ]) (hCont (v149, gb152) _ ⟨hHeld, (by (with_reducible repeat (first | apply Z4o | apply Z4m | apply Z4n)); exact HO150.out), (by (with_reducible repeat (first | apply Z4o | apply Z4m | apply Z4n)); exact Z4p HO_141001.out (fun _ hk => ⟨hk.1.1, ⟨hk.1.2, hk.2⟩⟩)), (by (with_reducible repeat (first | apply Z4o | apply Z4m | apply Z4n)); exact Z4p HO_142001.out (fun _ hk => ⟨hk.1.1, ⟨hk.1.2, hk.2⟩⟩)), (by (with_reducible repeat (first | refine Z4d ?_ _ | refine Z4e ?_ | refine Z4f ?_ _)); exact BK140.out), (by (with_reducible repeat (first | refine Z4d ?_ _ | refine Z4e ?_ | refine Z4f ?_ _)); exact BK141.out), (by (with_reducible repeat (first | refine Z4d ?_ _ | refine Z4e ?_ | refine Z4f ?_ _)); exact BK152.out), GW152.out, GE152.out, NB140_152.out, NB152_140.out, NB141_152.out, NB152_141.out, (by repeat (first | (with_reducible first | exact HB.out | apply Z4k | apply Z4i | apply Z4j | refine Z4l ?_ GE140.out | refine Z4l ?_ GE141.out | refine Z4l ?_ GE152.out) | exact HB.out))⟩)
                rintro ⟨v149, gb152⟩ w34 ⟨hS_, h0_, h1_, h2_, h3_, h4_, h5_, h6_, h7_, h8_, h9_, h10_, h11_, h12_⟩
                have n0_ : Aside0 (Kd.V k42 42 w34 w.heap.size (fun k_ => k_ ≠ gb140 ∧ k_ ≠ gb141 ∧ k_ ≠ gb152) v149 t148) := ⟨h0_⟩
                have n1_ : Aside0 (Kd.V k42 42 w34 w.heap.size (fun k_ => k_ ≠ gb140 ∧ k_ ≠ gb141 ∧ k_ ≠ gb152) (.slice Ao30 x141001_2.length co30) x141001_2) := ⟨h1_⟩
                have n2_ : Aside0 (Kd.V k42 42 w34 w.heap.size (fun k_ => k_ ≠ gb140 ∧ k_ ≠ gb141 ∧ k_ ≠ gb152) u142001 x142001_2) := ⟨h2_⟩
                have n3_ : Aside0 (w34.heap[gb140]? = some (.cells #[.int .i64 x141000_2, .slice Ao30 x141001_2.length co30] 24 (0, 0))) := ⟨h3_⟩
                have n4_ : Aside0 (w34.heap[gb141]? = some (.cells #[.int .i64 x142000_2, u142001] 24 (0, 0))) := ⟨h4_⟩
                have n5_ : Aside0 (w34.heap[gb152]? = some (.cells #[.int .i64 0, .slice none 0 0] 24 (0, 0))) := ⟨h5_⟩
                have n6_ : Aside0 (w.heap.size ≤ gb152) := ⟨h6_⟩
                have n7_ : Aside0 (w.heap.size ≤ gb152) := ⟨h7_⟩
                have n8_ : Aside0 (gb140 ≠ gb152) := ⟨h8_⟩
                have n9_ : Aside0 (gb152 ≠ gb140) := ⟨h9_⟩
                have n10_ : Aside0 (gb141 ≠ gb152) := ⟨h10_⟩
                have n11_ : Aside0 (gb152 ≠ gb141) := ⟨h11_⟩
                have n12_ : Aside0 (Below w.heap.size w w34) := ⟨h12_⟩
                clear HO_141001
                clear HO_142001
                clear BK140
                clear BK141
                clear HB
                clear h0_ h1_ h2_ h3_ h4_ h5_ h6_ h7_ h8_ h9_ h10_ h11_ h12_
                have HO150 := n0_
                have HO_141001 := n1_
                have HO_142001 := n2_
                have BK140 := n3_
                have BK141 := n4_
                have BK152 := n5_
                have GW152 := n6_
                have GE152 := n7_
                have NB140_152 := n8_
                have NB152_140 := n9_
                have NB141_152 := n10_
                have NB152_141 := n11_
                have HB := n12_
                clear n0_ n1_ n2_ n3_ n4_ n5_ n6_ n7_ n8_ n9_ n10_ n11_ n12_
                have hHeld : w34.cell? ⟨gb140, 0, none⟩ = some (.int .i64 x141000_2) ∧ w34.cell? ⟨gb140, 1, none⟩ = some (.slice Ao30 x141001_2.length co30) ∧ w34.cell? (ad145.add (x6_2).toNat) = some (.int .i64 (rd l0 x6_2)) ∧ w34.cell? (ad145.add (x6_2).toNat) = some (.int .i64 (rd l0 x6_2)) := hS_
                obtain ⟨Ao36, co36, eo36⟩ := Kd.V_slice HO150.out
                (first | subst eo36 | (injection eo36 with f1_ f2_ f3_; have f4_ := f1_.symm; have f5_ := f3_.symm; clear f1_ f2_ f3_; subst f4_; subst f5_))
                refine norm_ (a' := ?_) ?_ ?_
                rotate_left
                ·
                 simp only [putAll, Act.put, List.setIfInBounds_toArray, List.set_cons_zero, List.set_cons_succ]
                 rfl
                refine one_ (i := 15) (N := none) #[true, true, true, true, true, true, true, true, true, true, true, true, true, true, true, true, false] rfl rfl (one_of HT_.out (by kernel_rfl)) (by decide) (fun K hK => ?_)
                have hs35 : w34.cell? ⟨gb152, 0, none⟩ = some (.int .i64 0) := (Z4r BK152.out 0).trans rfl
                have hfs35 := blk_frozen BK152.out 0
                have hns35_0 := NB140_152.out
                have hns35_1 := NB141_152.out
                have hms35_0 := NB152_140.out
                have hms35_1 := NB152_141.out
                have hs37 : w34.cell? ⟨gb152, 1, none⟩ = some (.slice none 0 0) := (Z4r BK152.out 1).trans rfl
                have hfs37 := blk_frozen BK152.out 1
                have hns37_0 := NB140_152.out
                have hns37_1 := NB141_152.out
                have hms37_0 := NB152_140.out
                have hms37_1 := NB152_141.out
                refine skip_ (w1 := ?_) (by rfl) rfl ?_ ?_
                rotate_left
                ·
                 go_simp
                 rfl
                refine hK.out _ _ ⟨((cell_far (p := ⟨gb152, _, none⟩) NB140_152.out _).trans (((cell_far (p := ⟨gb152, _, none⟩) NB140_152.out _).trans (hHeld.1)))), ((cell_far (p := ⟨gb152, _, none⟩) NB140_152.out _).trans (((cell_far (p := ⟨gb152, _, none⟩) NB140_152.out _).trans (hHeld.2.1)))), ((cell_far (p := ⟨gb152, _, none⟩) (by first | exact Nat.ne_of_lt (Z4h (by have := Z4g _ _ hw145_0; first | rwa [add_block] at this | exact this) GW152.out) | (rw [add_block]; exact Nat.ne_of_lt (Z4h (by have := Z4g _ _ hw145_0; first | rwa [add_block] at this | exact this) GW152.out)) | (show (Addr.add _ _).block ≠ _; rw [add_block]; exact Nat.ne_of_lt (Z4h (by have := Z4g _ _ hw145_0; first | rwa [add_block] at this | exact this) GW152.out)) | (dsimp only; exact Nat.ne_of_lt (Z4h (by have := Z4g _ _ hw145_0; first | rwa [add_block] at this | exact this) GW152.out))) _).trans (((cell_far (p := ⟨gb152, _, none⟩) (by first | exact Nat.ne_of_lt (Z4h (by have := Z4g _ _ hw145_0; first | rwa [add_block] at this | exact this) GW152.out) | (rw [add_block]; exact Nat.ne_of_lt (Z4h (by have := Z4g _ _ hw145_0; first | rwa [add_block] at this | exact this) GW152.out)) | (show (Addr.add _ _).block ≠ _; rw [add_block]; exact Nat.ne_of_lt (Z4h (by have := Z4g _ _ hw145_0; first | rwa [add_block] at this | exact this) GW152.out)) | (dsimp only; exact Nat.ne_of_lt (Z4h (by have := Z4g _ _ hw145_0; first | rwa [add_block] at this | exact this) GW152.out))) _).trans (hHeld.2.2.1)))), ((cell_far (p := ⟨gb152, _, none⟩) (by first | exact Nat.ne_of_lt (Z4h (by have := Z4g _ _ hw146_0; first | rwa [add_block] at this | exact this) GW152.out) | (rw [add_block]; exact Nat.ne_of_lt (Z4h (by have := Z4g _ _ hw146_0; first | rwa [add_block] at this | exact this) GW152.out)) | (show (Addr.add _ _).block ≠ _; rw [add_block]; exact Nat.ne_of_lt (Z4h (by have := Z4g _ _ hw146_0; first | rwa [add_block] at this | exact this) GW152.out)) | (dsimp only; exact Nat.ne_of_lt (Z4h (by have := Z4g _ _ hw146_0; first | rwa [add_block] at this | exact this) GW152.out))) _).trans (((cell_far (p := ⟨gb152, _, none⟩) (by first | exact Nat.ne_of_lt (Z4h (by have := Z4g _ _ hw146_0; first | rwa [add_block] at this | exact this) GW152.out) | (rw [add_block]; exact Nat.ne_of_lt (Z4h (by have := Z4g _ _ hw146_0; first | rwa [add_block] at this | exact this) GW152.out)) | (show (Addr.add _ _).block ≠ _; rw [add_block]; exact Nat.ne_of_lt (Z4h (by have := Z4g _ _ hw146_0; first | rwa [add_block] at this | exact this) GW152.out)) | (dsimp only; exact Nat.ne_of_lt (Z4h (by have := Z4g _ _ hw146_0; first | rwa [add_block] at this | exact this) GW152.out))) _).trans (hHeld.2.2.2))))⟩ (fun hHeld => ?_)
                clear hK K
                refine pure_ (i := 16) (N := some 9) (v := ?_) (a' := ?_) #[true, true, true, true, true, true, true, true, true, true, true, true, true, true, true, true, true] rfl rfl (any_of HT_.out (by kernel_rfl)) (fun _ _ _ h => h) (Or.inl ⟨by rfl, ?_⟩) ?_ ?_
                rotate_left
                ·
                 intro w'
                 go_simp
                 with_reducible rfl
                rotate_left
                ·
                 simp only [Act.put, Z4a, Z4b, Z4c, i64_w, i32_w]
                 rfl
                refine done_ (done_of HT_.out (by kernel_rfl)) ?_
                have hnb38 := NB152_140.out
                have hnc38 := NB140_152.out
                have hnb39 := NB152_141.out
                have hnc39 := NB141_152.out
                have hcz40_0 : w34.cell? ⟨gb152, 0, none⟩ = some (.int .i64 0) := (Z4r BK152.out 0).trans rfl
                have hcz40_1 : w34.cell? ⟨gb152, 1, none⟩ = some (.slice none 0 0) := (Z4r BK152.out 1).trans rfl
                have hfz40_0 := blk_frozen BK152.out 0
                have hfz40_1 := blk_frozen BK152.out 1
                have hnb41 := NB140_141.out
                have hnc41 := NB141_140.out
                have hcz42_0 : w34.cell? ⟨gb140, 0, none⟩ = some (.int .i64 x141000_2) := (Z4r BK140.out 0).trans rfl
                have hcz42_1 : w34.cell? ⟨gb140, 1, none⟩ = some (.slice Ao30 x141001_2.length co30) := (Z4r BK140.out 1).trans rfl
                have hfz42_0 := blk_frozen BK140.out 0
                have hfz42_1 := blk_frozen BK140.out 1
                have p153 : 0 ≤ ((ji25) : Int) := of_decide_eq_true (by first | (with_reducible assumption) | assumption)
                have q153 : (ji25) < (l0.length : Int) := of_decide_eq_true (by first | (with_reducible assumption) | assumption)
                obtain ⟨ad153, e153, hx153_0⟩ := Kd.at_int HR0.out (ji25) p153 q153
                obtain rfl : ad145 = ad153 := (by injection e153)
                have hn153_0 : ad145.block ≠ gb152 := Nat.ne_of_lt (Z4h (by have := Z4g _ _ hx153_0; first | rwa [add_block] at this | exact this) GW152.out)
                have hn153_1 : ad145.block ≠ gb152 := Nat.ne_of_lt (Z4h (by have := Z4g _ _ hx153_0; first | rwa [add_block] at this | exact this) GW152.out)
                have hn153_2 : ad145.block ≠ gb140 := Nat.ne_of_lt (Z4h (by have := Z4g _ _ hx153_0; first | rwa [add_block] at this | exact this) GW140.out)
                have hn153_3 : ad145.block ≠ gb140 := Nat.ne_of_lt (Z4h (by have := Z4g _ _ hx153_0; first | rwa [add_block] at this | exact this) GW140.out)
                replace hx153_0 := (HB.out.cell (Z4g w _ hx153_0)).trans hx153_0
                replace hx153_0 := (cell_far (p := ⟨gb152, 0, none⟩) (by first | (rw [add_block]; exact hn153_0) | (show (Addr.add _ _).block ≠ _; rw [add_block]; exact hn153_0) | exact hn153_0) (.int .i64 t147)).trans hx153_0
                replace hx153_0 := (cell_far (p := ⟨gb152, 1, none⟩) (by first | (rw [add_block]; exact hn153_1) | (show (Addr.add _ _).block ≠ _; rw [add_block]; exact hn153_1) | exact hn153_1) (.slice Ao36 t148.length co36)).trans hx153_0
                replace hx153_0 := (cell_far (p := ⟨gb140, 0, none⟩) (by first | (rw [add_block]; exact hn153_2) | (show (Addr.add _ _).block ≠ _; rw [add_block]; exact hn153_2) | exact hn153_2) (.int .i64 t147)).trans hx153_0
                replace hx153_0 := (cell_far (p := ⟨gb140, 1, none⟩) (by first | (rw [add_block]; exact hn153_3) | (show (Addr.add _ _).block ≠ _; rw [add_block]; exact hn153_3) | exact hn153_3) (.slice Ao36 t148.length co36)).trans hx153_0
                clear hn153_0
                clear hn153_1
                clear hn153_2
                clear hn153_3
                replace p153 := eq_true p153
                replace q153 := eq_true q153
                have hcz43_0 : w34.cell? ⟨gb141, 0, none⟩ = some (.int .i64 x142000_2) := (Z4r BK141.out 0).trans rfl
                have hcz43_1 : w34.cell? ⟨gb141, 1, none⟩ = some (u142001) := (Z4r BK141.out 1).trans rfl
                have hfz43_0 := blk_frozen BK141.out 0
                have hfz43_1 := blk_frozen BK141.out 1
                obtain ⟨Ao44, co44, eo44⟩ := Kd.V_slice HO_142001.out
                subst eo44
                try go_wp2_with (first | ((with_reducible refine gate_callee (f := 12) rfl ?_); refine goesL_ (some 75) rfl rfl Try.func12 (by kernel_rfl) rfl #[.agg #[.int .i64 x142000_2, .slice Ao44 x142001_2.length co44], .int .i64 (rd l0 (ji25)), .agg #[.int .i64 0, .int .i64 (rd l0 (ji25)), .string (⟨#[]⟩ : ByteArray)]] rfl (by (try simp only [List.map_toArray, List.map_cons, List.map_nil]); first | done | (simp only [hji25]; rfl) | rfl | (simp only [List.length_drop, List.length_take]; rfl)) ?_; (with_reducible refine (window_Put.calls k3 x142000_2 _ _ x142001_2 (rd l0 (ji25)) 0 (rd l0 (ji25)) (⟨#[]⟩ : ByteArray) t154 t155 t158 _ ?side1 ?side2 A28.out).mono ?_); (case side1 => refine (Kd.V_reads' (e := 42) (base := w.heap.size) (ok := fun k_ => (k_ ≠ gb140 ∧ (k_ ≠ gb141 ∧ k_ ≠ gb152))) (n := x142001_2.length) (c := co44) ?_).2.2; exact (by (with_reducible repeat (first | apply Z4o | apply Z4m | apply Z4n)); exact (Z4p (Z4p (Kd.V_far (p := ⟨gb140, 1, none⟩) (Kd.V_far (p := ⟨gb140, 0, none⟩) (Kd.V_far (p := ⟨gb152, 1, none⟩) (Kd.V_far (p := ⟨gb152, 0, none⟩) (Z4p (Z4p HO_142001.out (fun k_ hk => (⟨hk, hk.2.2⟩ : _ ∧ k_ ≠ gb152))) (fun k_ hk => (⟨hk, hk.1.1⟩ : _ ∧ k_ ≠ gb140))) (fun _ hk => hk.1.2) (.int .i64 t147)) (fun _ hk => hk.1.2) (.slice Ao36 t148.length co36)) (fun _ hk => hk.2) (.int .i64 t147)) (fun _ hk => hk.2) (.slice Ao36 t148.length co36)) (fun _ h_ => h_.1)) (fun _ h_ => h_.1)))); (case side2 => exact (Kd.V_reads' HO_142001.out).2.1); rintro e w45 ⟨v156, rfl, ho0, hb⟩; refine ⟨_, rfl, ?_⟩; have n0_ := Aside0.mk (Z4q (by (with_reducible repeat (first | apply Z4o | apply Z4m | apply Z4n)); exact (Z4p (Z4p (Kd.V_far (p := ⟨gb140, 1, none⟩) (Kd.V_far (p := ⟨gb140, 0, none⟩) (Kd.V_far (p := ⟨gb152, 1, none⟩) (Kd.V_far (p := ⟨gb152, 0, none⟩) (Z4p (Z4p HO_141001.out (fun k_ hk => (⟨hk, hk.2.2⟩ : _ ∧ k_ ≠ gb152))) (fun k_ hk => (⟨hk, hk.1.1⟩ : _ ∧ k_ ≠ gb140))) (fun _ hk => hk.1.2) (.int .i64 t147)) (fun _ hk => hk.1.2) (.slice Ao36 t148.length co36)) (fun _ hk => hk.2) (.int .i64 t147)) (fun _ hk => hk.2) (.slice Ao36 t148.length co36)) (fun _ h_ => h_.1)) (fun _ h_ => h_.1))) hb); have n1_ := Aside0.mk (Z4q (by (with_reducible repeat (first | apply Z4o | apply Z4m | apply Z4n)); exact (Z4p (Z4p (Kd.V_far (p := ⟨gb140, 1, none⟩) (Kd.V_far (p := ⟨gb140, 0, none⟩) (Kd.V_far (p := ⟨gb152, 1, none⟩) (Kd.V_far (p := ⟨gb152, 0, none⟩) (Z4p (Z4p HO_142001.out (fun k_ hk => (⟨hk, hk.2.2⟩ : _ ∧ k_ ≠ gb152))) (fun k_ hk => (⟨hk, hk.1.1⟩ : _ ∧ k_ ≠ gb140))) (fun _ hk => hk.1.2) (.int .i64 t147)) (fun _ hk => hk.1.2) (.slice Ao36 t148.length co36)) (fun _ hk => hk.2) (.int .i64 t147)) (fun _ hk => hk.2) (.slice Ao36 t148.length co36)) (fun _ h_ => h_.1)) (fun _ h_ => h_.1))) hb); have n2_ := Aside0.mk (Z4q (by (with_reducible repeat (first | apply Z4o | apply Z4m | apply Z4n)); exact (Z4p (Z4p (Kd.V_far (p := ⟨gb140, 1, none⟩) (Kd.V_far (p := ⟨gb140, 0, none⟩) (Kd.V_far (p := ⟨gb152, 1, none⟩) (Kd.V_far (p := ⟨gb152, 0, none⟩) (Z4p (Z4p HO150.out (fun k_ hk => (⟨hk, hk.2.2⟩ : _ ∧ k_ ≠ gb152))) (fun k_ hk => (⟨hk, hk.1.1⟩ : _ ∧ k_ ≠ gb140))) (fun _ hk => hk.1.2) (.int .i64 t147)) (fun _ hk => hk.1.2) (.slice Ao36 t148.length co36)) (fun _ hk => hk.2) (.int .i64 t147)) (fun _ hk => hk.2) (.slice Ao36 t148.length co36)) (fun _ h_ => h_.1)) (fun _ h_ => h_.1))) hb); have n3_ := Aside0.mk (Kd.V_lower (Z4p (ok' := fun k_ => k_ ≠ gb140 ∧ k_ ≠ gb141 ∧ k_ ≠ gb152) ho0 (fun k_ hk_ => ⟨(Kd.freshB (g := gb140) (o := .cells #[.int .i64 t147, .slice Ao36 t148.length co36] 24 (0, 0)) (by (with_reducible repeat (first | refine Z4d ?_ _ | refine Z4e ?_ | refine Z4f ?_ _)); refine blk_put (cs := #[.int .i64 t147, .slice Ao30 x141001_2.length co30]) ?_ 1 _ rfl; (with_reducible repeat (first | refine Z4d ?_ _ | refine Z4e ?_ | refine Z4f ?_ _)); refine blk_put (cs := #[.int .i64 x141000_2, .slice Ao30 x141001_2.length co30]) ?_ 0 _ rfl; (with_reducible repeat (first | refine Z4d ?_ _ | refine Z4e ?_ | refine Z4f ?_ _)); refine blk_far ?_ NB140_152.out _; (with_reducible repeat (first | refine Z4d ?_ _ | refine Z4e ?_ | refine Z4f ?_ _)); refine blk_far ?_ NB140_152.out _; (with_reducible repeat (first | refine Z4d ?_ _ | refine Z4e ?_ | refine Z4f ?_ _)); exact BK140.out) k_ hk_), (Kd.freshB (g := gb141) (o := .cells #[.int .i64 x142000_2, .slice Ao44 x142001_2.length co44] 24 (0, 0)) (by (with_reducible repeat (first | refine Z4d ?_ _ | refine Z4e ?_ | refine Z4f ?_ _)); refine blk_far ?_ NB141_140.out _; (with_reducible repeat (first | refine Z4d ?_ _ | refine Z4e ?_ | refine Z4f ?_ _)); refine blk_far ?_ NB141_140.out _; (with_reducible repeat (first | refine Z4d ?_ _ | refine Z4e ?_ | refine Z4f ?_ _)); refine blk_far ?_ NB141_152.out _; (with_reducible repeat (first | refine Z4d ?_ _ | refine Z4e ?_ | refine Z4f ?_ _)); refine blk_far ?_ NB141_152.out _; (with_reducible repeat (first | refine Z4d ?_ _ | refine Z4e ?_ | refine Z4f ?_ _)); exact BK141.out) k_ hk_), (Kd.freshB (g := gb152) (o := .cells #[.int .i64 t147, .slice Ao36 t148.length co36] 24 (0, 0)) (by (with_reducible repeat (first | refine Z4d ?_ _ | refine Z4e ?_ | refine Z4f ?_ _)); refine blk_far ?_ NB152_140.out _; (with_reducible repeat (first | refine Z4d ?_ _ | refine Z4e ?_ | refine Z4f ?_ _)); refine blk_far ?_ NB152_140.out _; (with_reducible repeat (first | refine Z4d ?_ _ | refine Z4e ?_ | refine Z4f ?_ _)); refine blk_put (cs := #[.int .i64 t147, .slice none 0 0]) ?_ 1 _ rfl; (with_reducible repeat (first | refine Z4d ?_ _ | refine Z4e ?_ | refine Z4f ?_ _)); refine blk_put (cs := #[.int .i64 0, .slice none 0 0]) ?_ 0 _ rfl; (with_reducible repeat (first | refine Z4d ?_ _ | refine Z4e ?_ | refine Z4f ?_ _)); exact BK152.out) k_ hk_)⟩)) (below_size (by repeat (first | (with_reducible first | exact HB.out | apply Z4k | apply Z4i | apply Z4j | refine Z4l ?_ GE140.out | refine Z4l ?_ GE141.out | refine Z4l ?_ GE152.out) | exact HB.out)))); have n4_ := Aside0.mk (blk_below (g := gb140) (o := .cells #[.int .i64 t147, .slice Ao36 t148.length co36] 24 (0, 0)) (by (with_reducible repeat (first | refine Z4d ?_ _ | refine Z4e ?_ | refine Z4f ?_ _)); refine blk_put (cs := #[.int .i64 t147, .slice Ao30 x141001_2.length co30]) ?_ 1 _ rfl; (with_reducible repeat (first | refine Z4d ?_ _ | refine Z4e ?_ | refine Z4f ?_ _)); refine blk_put (cs := #[.int .i64 x141000_2, .slice Ao30 x141001_2.length co30]) ?_ 0 _ rfl; (with_reducible repeat (first | refine Z4d ?_ _ | refine Z4e ?_ | refine Z4f ?_ _)); refine blk_far ?_ NB140_152.out _; (with_reducible repeat (first | refine Z4d ?_ _ | refine Z4e ?_ | refine Z4f ?_ _)); refine blk_far ?_ NB140_152.out _; (with_reducible repeat (first | refine Z4d ?_ _ | refine Z4e ?_ | refine Z4f ?_ _)); exact BK140.out) hb); have n5_ := Aside0.mk (blk_below (g := gb141) (o := .cells #[.int .i64 x142000_2, .slice Ao44 x142001_2.length co44] 24 (0, 0)) (by (with_reducible repeat (first | refine Z4d ?_ _ | refine Z4e ?_ | refine Z4f ?_ _)); refine blk_far ?_ NB141_140.out _; (with_reducible repeat (first | refine Z4d ?_ _ | refine Z4e ?_ | refine Z4f ?_ _)); refine blk_far ?_ NB141_140.out _; (with_reducible repeat (first | refine Z4d ?_ _ | refine Z4e ?_ | refine Z4f ?_ _)); refine blk_far ?_ NB141_152.out _; (with_reducible repeat (first | refine Z4d ?_ _ | refine Z4e ?_ | refine Z4f ?_ _)); refine blk_far ?_ NB141_152.out _; (with_reducible repeat (first | refine Z4d ?_ _ | refine Z4e ?_ | refine Z4f ?_ _)); exact BK141.out) hb); have n6_ := Aside0.mk (blk_below (g := gb152) (o := .cells #[.int .i64 t147, .slice Ao36 t148.length co36] 24 (0, 0)) (by (with_reducible repeat (first | refine Z4d ?_ _ | refine Z4e ?_ | refine Z4f ?_ _)); refine blk_far ?_ NB152_140.out _; (with_reducible repeat (first | refine Z4d ?_ _ | refine Z4e ?_ | refine Z4f ?_ _)); refine blk_far ?_ NB152_140.out _; (with_reducible repeat (first | refine Z4d ?_ _ | refine Z4e ?_ | refine Z4f ?_ _)); refine blk_put (cs := #[.int .i64 t147, .slice none 0 0]) ?_ 1 _ rfl; (with_reducible repeat (first | refine Z4d ?_ _ | refine Z4e ?_ | refine Z4f ?_ _)); refine blk_put (cs := #[.int .i64 0, .slice none 0 0]) ?_ 0 _ rfl; (with_reducible repeat (first | refine Z4d ?_ _ | refine Z4e ?_ | refine Z4f ?_ _)); exact BK152.out) hb); have n7_ := Aside0.mk (below_step (by repeat (first | (with_reducible first | exact HB.out | apply Z4k | apply Z4i | apply Z4j | refine Z4l ?_ GE140.out | refine Z4l ?_ GE141.out | refine Z4l ?_ GE152.out) | exact HB.out)) hb); clear HO_141001; clear HO_142001; clear HO150; clear BK140; clear BK141; clear BK152; clear HB; have HO_141001 := n0_; have HO_142001 := n1_; have HO150 := n2_; have HO157 := n3_; have BK140 := n4_; have BK141 := n5_; have BK152 := n6_; have HB := n7_; clear n0_ n1_ n2_ n3_ n4_ n5_ n6_ n7_; (try clear hb); (try clear hb2); (try clear hk); (try clear hi); (try clear ho0)) | ((with_reducible refine gate_dst (N := 11) rfl ?_); (try (refine gate_guard (by rfl) ?_; dsimp only)); refine box_event ?hg (N := 11) ?hd (cs := #[.int .i64 0, .slice none 0 0]) (t := 24) ?hr ?_; (case hd => rfl); (case hg => rfl); (case hr => first | (go_simp; done) | (go_simp; rfl)); intro gb159 hg w46 hbox hb; have n0_ := Aside0.mk (Z4q (Kd.V_elderB (by (with_reducible repeat (first | apply Z4o | apply Z4m | apply Z4n)); exact HO_141001.out) gb159 (Nat.le_of_eq hg.symm)) hb); have n1_ := Aside0.mk (Z4q (Kd.V_elderB (by (with_reducible repeat (first | apply Z4o | apply Z4m | apply Z4n)); exact HO_142001.out) gb159 (Nat.le_of_eq hg.symm)) hb); have n2_ := Aside0.mk (Z4q (Kd.V_elderB (by (with_reducible repeat (first | apply Z4o | apply Z4m | apply Z4n)); exact HO150.out) gb159 (Nat.le_of_eq hg.symm)) hb); have n3_ := Aside0.mk (Z4q (Kd.V_elderB (by (with_reducible repeat (first | apply Z4o | apply Z4m | apply Z4n)); exact HO157.out) gb159 (Nat.le_of_eq hg.symm)) hb); have n4_ := Aside0.mk (blk_below (g := gb140) (o := .cells #[.int .i64 t147, .slice Ao36 t148.length co36] 24 (0, 0)) (by (with_reducible repeat (first | refine Z4d ?_ _ | refine Z4e ?_ | refine Z4f ?_ _)); exact BK140.out) hb); have n5_ := Aside0.mk (blk_below (g := gb141) (o := .cells #[.int .i64 x142000_2, .slice Ao44 x142001_2.length co44] 24 (0, 0)) (by (with_reducible repeat (first | refine Z4d ?_ _ | refine Z4e ?_ | refine Z4f ?_ _)); exact BK141.out) hb); have n6_ := Aside0.mk (blk_below (g := gb152) (o := .cells #[.int .i64 t147, .slice Ao36 t148.length co36] 24 (0, 0)) (by (with_reducible repeat (first | refine Z4d ?_ _ | refine Z4e ?_ | refine Z4f ?_ _)); exact BK152.out) hb); have n7_ := Aside0.mk (below_step (by repeat (first | (with_reducible first | exact HB.out | apply Z4k | apply Z4i | apply Z4j | refine Z4l ?_ GE140.out | refine Z4l ?_ GE141.out | refine Z4l ?_ GE152.out) | exact HB.out)) hb); have n8_ := Aside0.mk (hbox); have n9_ := Aside0.mk ((by rw [hg]; exact (below_size (by repeat (first | (with_reducible first | exact HB.out | apply Z4k | apply Z4i | apply Z4j | refine Z4l ?_ GE140.out | refine Z4l ?_ GE141.out | refine Z4l ?_ GE152.out) | exact HB.out))) : w.heap.size ≤ gb159)); have n10_ := Aside0.mk ((by rw [hg]; exact (below_size (by repeat (first | (with_reducible first | exact HB.out | apply Z4k | apply Z4i | apply Z4j | refine Z4l ?_ GE140.out | refine Z4l ?_ GE141.out | refine Z4l ?_ GE152.out) | exact HB.out))) : w.heap.size ≤ gb159)); have n11_ := Aside0.mk ((by rw [hg]; exact Nat.ne_of_lt (blk_lt (g := gb140) (o := .cells #[.int .i64 t147, .slice Ao36 t148.length co36] 24 (0, 0)) (by (with_reducible repeat (first | refine Z4d ?_ _ | refine Z4e ?_ | refine Z4f ?_ _)); exact BK140.out)) : gb140 ≠ gb159)); have n12_ := Aside0.mk ((by rw [hg]; exact Nat.ne_of_gt (blk_lt (g := gb140) (o := .cells #[.int .i64 t147, .slice Ao36 t148.length co36] 24 (0, 0)) (by (with_reducible repeat (first | refine Z4d ?_ _ | refine Z4e ?_ | refine Z4f ?_ _)); exact BK140.out)) : gb159 ≠ gb140)); have n13_ := Aside0.mk ((by rw [hg]; exact Nat.ne_of_lt (blk_lt (g := gb141) (o := .cells #[.int .i64 x142000_2, .slice Ao44 x142001_2.length co44] 24 (0, 0)) (by (with_reducible repeat (first | refine Z4d ?_ _ | refine Z4e ?_ | refine Z4f ?_ _)); exact BK141.out)) : gb141 ≠ gb159)); have n14_ := Aside0.mk ((by rw [hg]; exact Nat.ne_of_gt (blk_lt (g := gb141) (o := .cells #[.int .i64 x142000_2, .slice Ao44 x142001_2.length co44] 24 (0, 0)) (by (with_reducible repeat (first | refine Z4d ?_ _ | refine Z4e ?_ | refine Z4f ?_ _)); exact BK141.out)) : gb159 ≠ gb141)); have n15_ := Aside0.mk ((by rw [hg]; exact Nat.ne_of_lt (blk_lt (g := gb152) (o := .cells #[.int .i64 t147, .slice Ao36 t148.length co36] 24 (0, 0)) (by (with_reducible repeat (first | refine Z4d ?_ _ | refine Z4e ?_ | refine Z4f ?_ _)); exact BK152.out)) : gb152 ≠ gb159)); have n16_ := Aside0.mk ((by rw [hg]; exact Nat.ne_of_gt (blk_lt (g := gb152) (o := .cells #[.int .i64 t147, .slice Ao36 t148.length co36] 24 (0, 0)) (by (with_reducible repeat (first | refine Z4d ?_ _ | refine Z4e ?_ | refine Z4f ?_ _)); exact BK152.out)) : gb159 ≠ gb152)); clear HO_141001; clear HO_142001; clear HO150; clear HO157; clear BK140; clear BK141; clear BK152; clear HB; have HO_141001 := n0_; have HO_142001 := n1_; have HO150 := n2_; have HO157 := n3_; have BK140 := n4_; have BK141 := n5_; have BK152 := n6_; have HB := n7_; have BK159 := n8_; have GW159 := n9_; have GE159 := n10_; have NB140_159 := n11_; have NB159_140 := n12_; have NB141_159 := n13_; have NB159_141 := n14_; have NB152_159 := n15_; have NB159_152 := n16_; clear n0_ n1_ n2_ n3_ n4_ n5_ n6_ n7_ n8_ n9_ n10_ n11_ n12_ n13_ n14_ n15_ n16_; clear hb hbox hg; have hnb47 := NB159_140.out; have hnc47 := NB140_159.out; have hnb48 := NB159_141.out; have hnc48 := NB141_159.out; have hnb49 := NB159_152.out; have hnc49 := NB152_159.out; have hcz50_0 : w46.cell? ⟨gb159, 0, none⟩ = some (.int .i64 0) := (Z4r BK159.out 0).trans rfl; have hcz50_1 : w46.cell? ⟨gb159, 1, none⟩ = some (.slice none 0 0) := (Z4r BK159.out 1).trans rfl; have hfz50_0 := blk_frozen BK159.out 0; have hfz50_1 := blk_frozen BK159.out 1; obtain ⟨Ao51, co51, eo51⟩ := Kd.V_slice HO157.out; subst eo51; have hcz52_0 : w46.cell? ⟨gb141, 0, none⟩ = some (.int .i64 x142000_2) := (Z4r BK141.out 0).trans rfl; have hcz52_1 : w46.cell? ⟨gb141, 1, none⟩ = some (.slice Ao44 x142001_2.length co44) := (Z4r BK141.out 1).trans rfl; have hfz52_0 := blk_frozen BK141.out 0; have hfz52_1 := blk_frozen BK141.out 1))
                go_roundg k3
                case measure => have := HJ2.out; have := HK2.out; have := HK3.out; omega
                case rel => exact ⟨(wrap64 (x6_2 + 1)), (t147), (t148), (t154), (t155), (.slice Ao36 t148.length co36), (.slice Ao51 t155.length co51), (by first | rfl | (simp; done) | (simp [*]; done)), H', ⟨by have := HJ2.out; have := HK2.out; have := HK3.out; omega⟩, ⟨by (with_reducible repeat (first | apply Z4o | apply Z4m | apply Z4n)); exact Z4p (Kd.V_far (p := ⟨gb141, 1, none⟩) (Kd.V_far (p := ⟨gb141, 0, none⟩) (Kd.V_far (p := ⟨gb159, 1, none⟩) (Kd.V_far (p := ⟨gb159, 0, none⟩) (Z4p (Z4p HO150.out (fun k_ hk => (⟨hk, hk.2⟩ : _ ∧ k_ ≠ gb159))) (fun k_ hk => (⟨hk, hk.1.1.2.1⟩ : _ ∧ k_ ≠ gb141))) (fun _ hk => hk.1.2) (.int .i64 t154)) (fun _ hk => hk.1.2) (.slice Ao51 t155.length co51)) (fun _ hk => hk.2) (.int .i64 t154)) (fun _ hk => hk.2) (.slice Ao51 t155.length co51)) (fun _ hk => ⟨hk.1.1.1.1, hk.1.1.1.2.1⟩)⟩, ⟨by (with_reducible repeat (first | apply Z4o | apply Z4m | apply Z4n)); exact Z4p (Kd.V_far (p := ⟨gb141, 1, none⟩) (Kd.V_far (p := ⟨gb141, 0, none⟩) (Kd.V_far (p := ⟨gb159, 1, none⟩) (Kd.V_far (p := ⟨gb159, 0, none⟩) (Z4p (Z4p HO157.out (fun k_ hk => (⟨hk, hk.2⟩ : _ ∧ k_ ≠ gb159))) (fun k_ hk => (⟨hk, hk.1.1.2.1⟩ : _ ∧ k_ ≠ gb141))) (fun _ hk => hk.1.2) (.int .i64 t154)) (fun _ hk => hk.1.2) (.slice Ao51 t155.length co51)) (fun _ hk => hk.2) (.int .i64 t154)) (fun _ hk => hk.2) (.slice Ao51 t155.length co51)) (fun _ hk => ⟨hk.1.1.1.1, hk.1.1.1.2.1⟩)⟩, ⟨by (with_reducible repeat (first | refine Z4d ?_ _ | refine Z4e ?_ | refine Z4f ?_ _)); refine blk_far ?_ NB140_141.out _; (with_reducible repeat (first | refine Z4d ?_ _ | refine Z4e ?_ | refine Z4f ?_ _)); refine blk_far ?_ NB140_141.out _; (with_reducible repeat (first | refine Z4d ?_ _ | refine Z4e ?_ | refine Z4f ?_ _)); refine blk_far ?_ NB140_159.out _; (with_reducible repeat (first | refine Z4d ?_ _ | refine Z4e ?_ | refine Z4f ?_ _)); refine blk_far ?_ NB140_159.out _; (with_reducible repeat (first | refine Z4d ?_ _ | refine Z4e ?_ | refine Z4f ?_ _)); exact BK140.out⟩, ⟨by (with_reducible repeat (first | refine Z4d ?_ _ | refine Z4e ?_ | refine Z4f ?_ _)); refine blk_put (cs := #[.int .i64 t154, .slice Ao44 x142001_2.length co44]) ?_ 1 _ rfl; (with_reducible repeat (first | refine Z4d ?_ _ | refine Z4e ?_ | refine Z4f ?_ _)); refine blk_put (cs := #[.int .i64 x142000_2, .slice Ao44 x142001_2.length co44]) ?_ 0 _ rfl; (with_reducible repeat (first | refine Z4d ?_ _ | refine Z4e ?_ | refine Z4f ?_ _)); refine blk_far ?_ NB141_159.out _; (with_reducible repeat (first | refine Z4d ?_ _ | refine Z4e ?_ | refine Z4f ?_ _)); refine blk_far ?_ NB141_159.out _; (with_reducible repeat (first | refine Z4d ?_ _ | refine Z4e ?_ | refine Z4f ?_ _)); exact BK141.out⟩, ⟨by repeat (first | (with_reducible first | exact HB.out | apply Z4k | apply Z4i | apply Z4j | refine Z4l ?_ GE140.out | refine Z4l ?_ GE141.out | refine Z4l ?_ GE152.out | refine Z4l ?_ GE159.out) | exact HB.out)⟩⟩
               ·
                rw [if_neg c29] at H
                have c29b0 : (t158 == 0) = false := beq_eq_false_iff_ne.mpr c29
                have c29b1 : (t158 != 0) = true := bne_iff_ne.mpr c29
                have H' := Aside0.mk H
                clear H
                obtain ⟨Ao53, co53, eo53⟩ := Kd.V_slice HO_141001.out
                subst eo53
                try go_wp2
                have n0_ := Aside0.mk (Z4n HO_141001.out)
                have n1_ := Aside0.mk (Z4n HO_142001.out)
                have n2_ := Aside0.mk (Z4e BK140.out)
                have n3_ := Aside0.mk (Z4e BK141.out)
                have n4_ := Aside0.mk (Z4j HB.out)
                clear HO_141001
                clear HO_142001
                clear BK140
                clear BK141
                clear HB
                have HO_141001 := n0_
                have HO_142001 := n1_
                have BK140 := n2_
                have BK141 := n3_
                have HB := n4_
                clear n0_ n1_ n2_ n3_ n4_
                have p145 : 0 ≤ (x6_2 : Int) := of_decide_eq_true (by first | (with_reducible assumption) | assumption)
                have q145 : x6_2 < (l0.length : Int) := of_decide_eq_true (by first | (with_reducible assumption) | assumption)
                obtain ⟨ad145, e145, hx145_0⟩ := Kd.at_int HR0.out x6_2 p145 q145
                have hw145_0 := hx145_0
                cases e145
                replace hx145_0 := (HB.out.cell (Z4g w _ hx145_0)).trans hx145_0
                replace p145 := eq_true p145
                replace q145 := eq_true q145
                have p146 : 0 ≤ (x6_2 : Int) := of_decide_eq_true (by first | (with_reducible assumption) | assumption)
                have q146 : x6_2 < (l0.length : Int) := of_decide_eq_true (by first | (with_reducible assumption) | assumption)
                obtain ⟨ad146, e146, hx146_0⟩ := Kd.at_int HR0.out x6_2 p146 q146
                have hw146_0 := hx146_0
                obtain rfl : ad145 = ad146 := (by injection e146)
                replace hx146_0 := (HB.out.cell (Z4g w _ hx146_0)).trans hx146_0
                replace p146 := eq_true p146
                replace q146 := eq_true q146
                refine start_ (n := 17) (S := fun w' => w'.cell? ⟨gb140, 0, none⟩ = some (.int .i64 x141000_2) ∧ w'.cell? ⟨gb140, 1, none⟩ = some (.slice Ao53 x141001_2.length co53) ∧ w'.cell? (ad145.add (x6_2).toNat) = some (.int .i64 (rd l0 x6_2)) ∧ w'.cell? (ad145.add (x6_2).toNat) = some (.int .i64 (rd l0 x6_2))) (ds := []) #[false, false, false, false, false, false, false, false, false, false, false, false, false, false, false, false, false] (by kernel_rfl) rfl rfl ⟨(Z4r BK140.out 0).trans rfl, (Z4r BK140.out 1).trans rfl, ((HB.out.cell (Z4g w _ hw145_0)).trans hw145_0), ((HB.out.cell (Z4g w _ hw146_0)).trans hw146_0)⟩ (fun hHeld => ?_); refine with_tabW colloquylaw17_WindowOrder.tab14 colloquylaw17_WindowOrder.bits14 (fun HT_ HW_ => ?_)
                generalize wr.drew = w54 at HO_141001 HO_142001 BK140 BK141 HB hx145_0 hx146_0 hHeld ⊢
                refine pure_ (i := 1) (N := some 47) (v := ?_) (a' := ?_) #[false, true, false, false, false, false, false, false, false, false, false, false, false, false, false, false, false] rfl rfl (any_of HT_.out (by kernel_rfl)) (fun _ _ _ h => h) (Or.inl ⟨by rfl, ?_⟩) ?_ ?_
                rotate_left
                ·
                 intro w'
                 go_simp
                 with_reducible rfl
                rotate_left
                ·
                 simp only [Act.put, Z4a, Z4b, Z4c, i64_w, i32_w]
                 rfl
                refine pure_ (i := 2) (N := some 48) (v := ?_) (a' := ?_) #[false, true, true, false, false, false, false, false, false, false, false, false, false, false, false, false, false] rfl rfl (any_of HT_.out (by kernel_rfl)) (fun _ _ _ h => h) (Or.inl ⟨by rfl, ?_⟩) ?_ ?_
                rotate_left
                ·
                 intro w'
                 go_simp
                 with_reducible rfl
                rotate_left
                ·
                 simp only [Act.put, Z4a, Z4b, Z4c, i64_w, i32_w]
                 rfl
                refine pure_ (i := 3) (N := some 49) (v := ?_) (a' := ?_) #[false, true, true, true, false, false, false, false, false, false, false, false, false, false, false, false, false] rfl rfl (any_of HT_.out (by kernel_rfl)) (fun _ _ _ h => h) (Or.inl ⟨by rfl, ?_⟩) ?_ ?_
                rotate_left
                ·
                 intro w'
                 go_simp
                 with_reducible rfl
                rotate_left
                ·
                 simp only [Act.put, Z4a, Z4b, Z4c, i64_w, i32_w]
                 rfl
                refine pure_ (i := 5) (N := some 51) (v := ?_) (a' := ?_) #[false, true, true, true, false, true, false, false, false, false, false, false, false, false, false, false, false] rfl rfl (any_of HT_.out (by kernel_rfl)) (fun _ _ _ h => h) (Or.inl ⟨by rfl, ?_⟩) ?_ ?_
                rotate_left
                ·
                 intro w'
                 go_simp
                 with_reducible rfl
                rotate_left
                ·
                 simp only [Act.put, Z4a, Z4b, Z4c, i64_w, i32_w]
                 rfl
                refine pure_ (i := 6) (N := some 52) (v := ?_) (a' := ?_) #[false, true, true, true, false, true, true, false, false, false, false, false, false, false, false, false, false] rfl rfl (any_of HT_.out (by kernel_rfl)) (fun _ _ _ h => h) (Or.inl ⟨by rfl, ?_⟩) ?_ ?_
                rotate_left
                ·
                 intro w'
                 go_simp
                 with_reducible rfl
                rotate_left
                ·
                 simp only [Act.put, Z4a, Z4b, Z4c, i64_w, i32_w]
                 rfl
                refine pure_ (i := 7) (N := some 53) (v := ?_) (a' := ?_) #[false, true, true, true, false, true, true, true, false, false, false, false, false, false, false, false, false] rfl rfl (any_of HT_.out (by kernel_rfl)) (fun _ _ _ h => h) (Or.inl ⟨by rfl, ?_⟩) ?_ ?_
                rotate_left
                ·
                 intro w'
                 go_simp
                 with_reducible rfl
                rotate_left
                ·
                 simp only [Act.put, Z4a, Z4b, Z4c, i64_w, i32_w]
                 rfl
                refine take_ (i := 0) (N := some 46) (v := ?_) (a' := ?_) #[true, true, true, true, false, true, true, true, false, false, false, false, false, false, false, false, false] rfl rfl (take_ofW HT_.out HW_.out (by kernel_rfl)) (fun _ _ _ h => h) (Or.inl ⟨by rfl, ?_⟩) hHeld ?_ ?_
                rotate_left
                ·
                 rintro w' ⟨s0, s1, s2, s3⟩
                 go_simp
                 with_reducible rfl
                rotate_left
                ·
                 simp only [Act.put, Z4a, Z4b, Z4c, i64_w, i32_w]
                 rfl
                refine take_ (i := 4) (N := some 50) (v := ?_) (a' := ?_) #[true, true, true, true, true, true, true, true, false, false, false, false, false, false, false, false, false] rfl rfl (take_ofW HT_.out HW_.out (by kernel_rfl)) (fun _ _ _ h => h) (Or.inl ⟨by rfl, ?_⟩) hHeld ?_ ?_
                rotate_left
                ·
                 rintro w' ⟨s0, s1, s2, s3⟩
                 go_simp
                 with_reducible rfl
                rotate_left
                ·
                 simp only [Act.put, Z4a, Z4b, Z4c, i64_w, i32_w]
                 rfl
                refine take_ (i := 8) (N := some 54) (v := ?_) (a' := ?_) #[true, true, true, true, true, true, true, true, true, false, false, false, false, false, false, false, false] rfl rfl (take_ofW HT_.out HW_.out (by kernel_rfl)) (fun _ _ _ h => h) (Or.inl ⟨by rfl, ?_⟩) hHeld ?_ ?_
                rotate_left
                ·
                 rintro w' ⟨s0, s1, s2, s3⟩
                 go_simp
                 with_reducible rfl
                rotate_left
                ·
                 simp only [Act.put, Z4a, Z4b, Z4c, i64_w, i32_w]
                 rfl
                refine pure_ (i := 9) (N := some 55) (v := ?_) (a' := ?_) #[true, true, true, true, true, true, true, true, true, true, false, false, false, false, false, false, false] rfl rfl (any_of HT_.out (by kernel_rfl)) (fun _ _ _ h => h) (Or.inl ⟨by rfl, ?_⟩) ?_ ?_
                rotate_left
                ·
                 intro w'
                 go_simp
                 with_reducible rfl
                rotate_left
                ·
                 simp only [Act.put, Z4a, Z4b, Z4c, i64_w, i32_w]
                 rfl
                refine join_ (σ := Value × Nat) 2 #[true, true, true, true, true, true, true, true, true, true, true, true, true, true, true, false, false] (fun s_ => [(56, .tuple #[.agg #[.int .i64 t147, s_.1], .int .i64 t151]), (8, .pointer (some ⟨s_.2, 0, none⟩)), (45, .tuple #[.agg #[.int .i64 t147, s_.1], .int .i64 t151]), (57, .agg #[.int .i64 t147, s_.1]), (58, .int .i64 t151)]) (fun s_ w' => (w'.cell? ⟨gb140, 0, none⟩ = some (.int .i64 x141000_2) ∧ w'.cell? ⟨gb140, 1, none⟩ = some (.slice Ao53 x141001_2.length co53) ∧ w'.cell? (ad145.add (x6_2).toNat) = some (.int .i64 (rd l0 x6_2)) ∧ w'.cell? (ad145.add (x6_2).toNat) = some (.int .i64 (rd l0 x6_2))) ∧ (Kd.V k42 42 w' w.heap.size (fun k_ => k_ ≠ gb140 ∧ k_ ≠ gb141 ∧ k_ ≠ s_.2) s_.1 t148) ∧ (Kd.V k42 42 w' w.heap.size (fun k_ => k_ ≠ gb140 ∧ k_ ≠ gb141 ∧ k_ ≠ s_.2) (.slice Ao53 x141001_2.length co53) x141001_2) ∧ (Kd.V k42 42 w' w.heap.size (fun k_ => k_ ≠ gb140 ∧ k_ ≠ gb141 ∧ k_ ≠ s_.2) u142001 x142001_2) ∧ (w'.heap[gb140]? = some (.cells #[.int .i64 x141000_2, .slice Ao53 x141001_2.length co53] 24 (0, 0))) ∧ (w'.heap[gb141]? = some (.cells #[.int .i64 x142000_2, u142001] 24 (0, 0))) ∧ (w'.heap[s_.2]? = some (.cells #[.int .i64 0, .slice none 0 0] 24 (0, 0))) ∧ (w.heap.size ≤ s_.2) ∧ (w.heap.size ≤ s_.2) ∧ (gb140 ≠ s_.2) ∧ (s_.2 ≠ gb140) ∧ (gb141 ≠ s_.2) ∧ (s_.2 ≠ gb141) ∧ (Below w.heap.size w w')) ?_ ?_
                rotate_left
                ·
                 intro hCont
                 refine two_ (i := 10) (j := 14) (Ni := some 56) (Nj := some 8) #[true, true, true, true, true, true, true, true, true, true, true, false, false, false, false, false, false] #[true, true, true, true, true, true, true, true, true, true, false, false, false, false, true, false, false] rfl rfl rfl rfl (two_of HT_.out (by kernel_rfl)) (by decide) (by decide) (fun K hK => ?_) (fun K hK => ?_)
                 ·
                  skip
                  refine goes_ Try.func12 (by kernel_rfl) rfl #[.agg #[.int .i64 x141000_2, .slice Ao53 x141001_2.length co53], .int .i64 (rd l0 x6_2), .agg #[.int .i64 0, .int .i64 (rd l0 x6_2), .string (⟨#[]⟩ : ByteArray)]] (by rfl) rfl rfl (by (try simp only [List.map_toArray, List.map_cons, List.map_nil]); first | done | rfl | (simp only [List.length_drop, List.length_take]; rfl)) ?_
                  with_reducible refine (window_Put.calls k3 x141000_2 _ _ x141001_2 (rd l0 x6_2) 0 (rd l0 x6_2) (⟨#[]⟩ : ByteArray) t147 t148 t151 _ ?side1 ?side2 A23.out).mono ?_
                  (case side1 => repeat (first | exact (Kd.V_reads' HO_141001.out).2.2 | (with_reducible refine Kd.C_alloc ?_ _) | (with_reducible refine Kd.C_drewN ?_ _) | (with_reducible refine Kd.C_drew ?_)))
                  (case side2 => exact (Kd.V_reads' HO_141001.out).2.1)
                  rintro e w55 ⟨v149, rfl, ho0, hb⟩
                  refine ⟨_, rfl, ?_⟩
                  have n0_ := Aside0.mk (Z4q (by (with_reducible repeat (first | apply Z4o | apply Z4m | apply Z4n)); exact HO_141001.out) hb)
                  have n1_ := Aside0.mk (Z4q (by (with_reducible repeat (first | apply Z4o | apply Z4m | apply Z4n)); exact HO_142001.out) hb)
                  have n2_ := Aside0.mk (Kd.V_lower (Z4p (ok' := fun k_ => k_ ≠ gb140 ∧ k_ ≠ gb141) ho0 (fun k_ hk_ => ⟨(Kd.freshB (g := gb140) (o := .cells #[.int .i64 x141000_2, .slice Ao53 x141001_2.length co53] 24 (0, 0)) (by (with_reducible repeat (first | refine Z4d ?_ _ | refine Z4e ?_ | refine Z4f ?_ _)); exact BK140.out) k_ hk_), (Kd.freshB (g := gb141) (o := .cells #[.int .i64 x142000_2, u142001] 24 (0, 0)) (by (with_reducible repeat (first | refine Z4d ?_ _ | refine Z4e ?_ | refine Z4f ?_ _)); exact BK141.out) k_ hk_)⟩)) (below_size (by repeat (first | (with_reducible first | exact HB.out | apply Z4k | apply Z4i | apply Z4j | refine Z4l ?_ GE140.out | refine Z4l ?_ GE141.out) | exact HB.out))))
                  have n3_ := Aside0.mk (blk_below (g := gb140) (o := .cells #[.int .i64 x141000_2, .slice Ao53 x141001_2.length co53] 24 (0, 0)) (by (with_reducible repeat (first | refine Z4d ?_ _ | refine Z4e ?_ | refine Z4f ?_ _)); exact BK140.out) hb)
                  have n4_ := Aside0.mk (blk_below (g := gb141) (o := .cells #[.int .i64 x142000_2, u142001] 24 (0, 0)) (by (with_reducible repeat (first | refine Z4d ?_ _ | refine Z4e ?_ | refine Z4f ?_ _)); exact BK141.out) hb)
                  have n5_ := Aside0.mk (below_step (by repeat (first | (with_reducible first | exact HB.out | apply Z4k | apply Z4i | apply Z4j | refine Z4l ?_ GE140.out | refine Z4l ?_ GE141.out) | exact HB.out)) hb)
                  clear HO_141001
                  clear HO_142001
                  clear BK140
                  clear BK141
                  clear HB
                  have HO_141001 := n0_
                  have HO_142001 := n1_
                  have HO150 := n2_
                  have BK140 := n3_
                  have BK141 := n4_
                  have HB := n5_
                  clear n0_ n1_ n2_ n3_ n4_ n5_
                  (try clear hb)
                  (try clear hb2)
                  (try clear hk)
                  (try clear hi)
                  (try clear ho0)
                  refine hK.out _ _ ⟨(Z4r BK140.out 0).trans rfl, (Z4r BK140.out 1).trans rfl, ((HB.out.cell (Z4g w _ hw145_0)).trans hw145_0), ((HB.out.cell (Z4g w _ hw146_0)).trans hw146_0)⟩ (fun hHeld => ?_)
                  clear hK K
                  refine norm_ (a' := ?_) ?_ ?_
                  rotate_left
                  ·
                   show Act.put _ (some 56) _ = _
                   simp only [Act.put, Z4a, Z4b, Z4c, i64_w, i32_w]
                   rfl
                  refine pure_ (i := 11) (N := some 45) (v := ?_) (a' := ?_) #[true, true, true, true, true, true, true, true, true, true, true, true, false, false, false, false, false] rfl rfl (any_of HT_.out (by kernel_rfl)) (fun _ _ _ h => h) (Or.inl ⟨by rfl, ?_⟩) ?_ ?_
                  rotate_left
                  ·
                   intro w'
                   go_simp
                   with_reducible rfl
                  rotate_left
                  ·
                   simp only [Act.put, Z4a, Z4b, Z4c, i64_w, i32_w]
                   rfl
                  refine pure_ (i := 12) (N := some 57) (v := ?_) (a' := ?_) #[true, true, true, true, true, true, true, true, true, true, true, true, true, false, false, false, false] rfl rfl (any_of HT_.out (by kernel_rfl)) (fun _ _ _ h => h) (Or.inl ⟨by rfl, ?_⟩) ?_ ?_
                  rotate_left
                  ·
                   intro w'
                   go_simp
                   with_reducible rfl
                  rotate_left
                  ·
                   simp only [Act.put, Z4a, Z4b, Z4c, i64_w, i32_w]
                   rfl
                  refine pure_ (i := 13) (N := some 58) (v := ?_) (a' := ?_) #[true, true, true, true, true, true, true, true, true, true, true, true, true, true, false, false, false] rfl rfl (any_of HT_.out (by kernel_rfl)) (fun _ _ _ h => h) (Or.inl ⟨by rfl, ?_⟩) ?_ ?_
                  rotate_left
                  ·
                   intro w'
                   go_simp
                   with_reducible rfl
                  rotate_left
                  ·
                   simp only [Act.put, Z4a, Z4b, Z4c, i64_w, i32_w]
                   rfl
                  refine one_ (i := 14) (N := some 8) #[true, true, true, true, true, true, true, true, true, true, true, true, true, true, true, false, false] rfl rfl (one_of HT_.out (by kernel_rfl)) (by decide) (fun K hK => ?_)
                  refine box_step ?hg (N := 8) ?hd (cs := #[.int .i64 0, .slice none 0 0]) (t := 24) ?hr ?_; (case hd => rfl); (case hg => rfl); (case hr => first | (go_simp; done) | (go_simp; rfl))
                  intro gb152 hg w56 hbox hb
                  have n0_ := Aside0.mk (Z4q (Kd.V_elderB (by (with_reducible repeat (first | apply Z4o | apply Z4m | apply Z4n)); exact HO_141001.out) gb152 (Nat.le_of_eq hg.symm)) hb)
                  have n1_ := Aside0.mk (Z4q (Kd.V_elderB (by (with_reducible repeat (first | apply Z4o | apply Z4m | apply Z4n)); exact HO_142001.out) gb152 (Nat.le_of_eq hg.symm)) hb)
                  have n2_ := Aside0.mk (Z4q (Kd.V_elderB (by (with_reducible repeat (first | apply Z4o | apply Z4m | apply Z4n)); exact HO150.out) gb152 (Nat.le_of_eq hg.symm)) hb)
                  have n3_ := Aside0.mk (blk_below (g := gb140) (o := .cells #[.int .i64 x141000_2, .slice Ao53 x141001_2.length co53] 24 (0, 0)) (by (with_reducible repeat (first | refine Z4d ?_ _ | refine Z4e ?_ | refine Z4f ?_ _)); exact BK140.out) hb)
                  have n4_ := Aside0.mk (blk_below (g := gb141) (o := .cells #[.int .i64 x142000_2, u142001] 24 (0, 0)) (by (with_reducible repeat (first | refine Z4d ?_ _ | refine Z4e ?_ | refine Z4f ?_ _)); exact BK141.out) hb)
                  have n5_ := Aside0.mk (below_step (by repeat (first | (with_reducible first | exact HB.out | apply Z4k | apply Z4i | apply Z4j | refine Z4l ?_ GE140.out | refine Z4l ?_ GE141.out) | exact HB.out)) hb)
                  have n6_ := Aside0.mk (hbox)
                  have n7_ := Aside0.mk ((by rw [hg]; exact (below_size (by repeat (first | (with_reducible first | exact HB.out | apply Z4k | apply Z4i | apply Z4j | refine Z4l ?_ GE140.out | refine Z4l ?_ GE141.out) | exact HB.out))) : w.heap.size ≤ gb152))
                  have n8_ := Aside0.mk ((by rw [hg]; exact (below_size (by repeat (first | (with_reducible first | exact HB.out | apply Z4k | apply Z4i | apply Z4j | refine Z4l ?_ GE140.out | refine Z4l ?_ GE141.out) | exact HB.out))) : w.heap.size ≤ gb152))
                  have n9_ := Aside0.mk ((by rw [hg]; exact Nat.ne_of_lt (blk_lt (g := gb140) (o := .cells #[.int .i64 x141000_2, .slice Ao53 x141001_2.length co53] 24 (0, 0)) (by (with_reducible repeat (first | refine Z4d ?_ _ | refine Z4e ?_ | refine Z4f ?_ _)); exact BK140.out)) : gb140 ≠ gb152))
                  have n10_ := Aside0.mk ((by rw [hg]; exact Nat.ne_of_gt (blk_lt (g := gb140) (o := .cells #[.int .i64 x141000_2, .slice Ao53 x141001_2.length co53] 24 (0, 0)) (by (with_reducible repeat (first | refine Z4d ?_ _ | refine Z4e ?_ | refine Z4f ?_ _)); exact BK140.out)) : gb152 ≠ gb140))
                  have n11_ := Aside0.mk ((by rw [hg]; exact Nat.ne_of_lt (blk_lt (g := gb141) (o := .cells #[.int .i64 x142000_2, u142001] 24 (0, 0)) (by (with_reducible repeat (first | refine Z4d ?_ _ | refine Z4e ?_ | refine Z4f ?_ _)); exact BK141.out)) : gb141 ≠ gb152))
                  have n12_ := Aside0.mk ((by rw [hg]; exact Nat.ne_of_gt (blk_lt (g := gb141) (o := .cells #[.int .i64 x142000_2, u142001] 24 (0, 0)) (by (with_reducible repeat (first | refine Z4d ?_ _ | refine Z4e ?_ | refine Z4f ?_ _)); exact BK141.out)) : gb152 ≠ gb141))
                  clear HO_141001
                  clear HO_142001
                  clear HO150
                  clear BK140
                  clear BK141
                  clear HB
                  have HO_141001 := n0_
                  have HO_142001 := n1_
                  have HO150 := n2_
                  have BK140 := n3_
                  have BK141 := n4_
                  have HB := n5_
                  have BK152 := n6_
                  have GW152 := n7_
                  have GE152 := n8_
                  have NB140_152 := n9_
                  have NB152_140 := n10_
                  have NB141_152 := n11_
                  have NB152_141 := n12_
                  clear n0_ n1_ n2_ n3_ n4_ n5_ n6_ n7_ n8_ n9_ n10_ n11_ n12_
                  clear hb hbox hg
                  refine hK.out _ _ ⟨(Z4r BK140.out 0).trans rfl, (Z4r BK140.out 1).trans rfl, ((HB.out.cell (Z4g w _ hw145_0)).trans hw145_0), ((HB.out.cell (Z4g w _ hw146_0)).trans hw146_0)⟩ (fun hHeld => ?_)
                  clear hK K
                  refine norm_ (a' := ?_) ?_ ?_
                  rotate_left
                  ·
                   show Act.put _ (some 8) _ = _
                   simp only [Act.put, Z4a, Z4b, Z4c, i64_w, i32_w]
                   rfl
                  exact norm_ (by simp only [putAll, Act.put, List.setIfInBounds_toArray, List.set_cons_zero, List.set_cons_succ]) (hCont (v149, gb152) _ ⟨hHeld, (by (with_reducible repeat (first | apply Z4o | apply Z4m | apply Z4n)); exact Z4p HO150.out (fun _ hk => ⟨hk.1.1, ⟨hk.1.2, hk.2⟩⟩)), (by (with_reducible repeat (first | apply Z4o | apply Z4m | apply Z4n)); exact Z4p HO_141001.out (fun _ hk => ⟨hk.1.1, ⟨hk.1.2, hk.2⟩⟩)), (by (with_reducible repeat (first | apply Z4o | apply Z4m | apply Z4n)); exact Z4p HO_142001.out (fun _ hk => ⟨hk.1.1, ⟨hk.1.2, hk.2⟩⟩)), (by (with_reducible repeat (first | refine Z4d ?_ _ | refine Z4e ?_ | refine Z4f ?_ _)); exact BK140.out), (by (with_reducible repeat (first | refine Z4d ?_ _ | refine Z4e ?_ | refine Z4f ?_ _)); exact BK141.out), (by (with_reducible repeat (first | refine Z4d ?_ _ | refine Z4e ?_ | refine Z4f ?_ _)); exact BK152.out), GW152.out, GE152.out, NB140_152.out, NB152_140.out, NB141_152.out, NB152_141.out, (by repeat (first | (with_reducible first | exact HB.out | apply Z4k | apply Z4i | apply Z4j | refine Z4l ?_ GE140.out | refine Z4l ?_ GE141.out | refine Z4l ?_ GE152.out) | exact HB.out))⟩)
                 ·
                  skip
                  refine box_step ?hg (N := 8) ?hd (cs := #[.int .i64 0, .slice none 0 0]) (t := 24) ?hr ?_; (case hd => rfl); (case hg => rfl); (case hr => first | (go_simp; done) | (go_simp; rfl))
                  intro gb152 hg w55 hbox hb
                  have n0_ := Aside0.mk (Z4q (Kd.V_elderB (by (with_reducible repeat (first | apply Z4o | apply Z4m | apply Z4n)); exact HO_141001.out) gb152 (Nat.le_of_eq hg.symm)) hb)
                  have n1_ := Aside0.mk (Z4q (Kd.V_elderB (by (with_reducible repeat (first | apply Z4o | apply Z4m | apply Z4n)); exact HO_142001.out) gb152 (Nat.le_of_eq hg.symm)) hb)
                  have n2_ := Aside0.mk (blk_below (g := gb140) (o := .cells #[.int .i64 x141000_2, .slice Ao53 x141001_2.length co53] 24 (0, 0)) (by (with_reducible repeat (first | refine Z4d ?_ _ | refine Z4e ?_ | refine Z4f ?_ _)); exact BK140.out) hb)
                  have n3_ := Aside0.mk (blk_below (g := gb141) (o := .cells #[.int .i64 x142000_2, u142001] 24 (0, 0)) (by (with_reducible repeat (first | refine Z4d ?_ _ | refine Z4e ?_ | refine Z4f ?_ _)); exact BK141.out) hb)
                  have n4_ := Aside0.mk (below_step (by repeat (first | (with_reducible first | exact HB.out | apply Z4k | apply Z4i | apply Z4j | refine Z4l ?_ GE140.out | refine Z4l ?_ GE141.out) | exact HB.out)) hb)
                  have n5_ := Aside0.mk (hbox)
                  have n6_ := Aside0.mk ((by rw [hg]; exact (below_size (by repeat (first | (with_reducible first | exact HB.out | apply Z4k | apply Z4i | apply Z4j | refine Z4l ?_ GE140.out | refine Z4l ?_ GE141.out) | exact HB.out))) : w.heap.size ≤ gb152))
                  have n7_ := Aside0.mk ((by rw [hg]; exact (below_size (by repeat (first | (with_reducible first | exact HB.out | apply Z4k | apply Z4i | apply Z4j | refine Z4l ?_ GE140.out | refine Z4l ?_ GE141.out) | exact HB.out))) : w.heap.size ≤ gb152))
                  have n8_ := Aside0.mk ((by rw [hg]; exact Nat.ne_of_lt (blk_lt (g := gb140) (o := .cells #[.int .i64 x141000_2, .slice Ao53 x141001_2.length co53] 24 (0, 0)) (by (with_reducible repeat (first | refine Z4d ?_ _ | refine Z4e ?_ | refine Z4f ?_ _)); exact BK140.out)) : gb140 ≠ gb152))
                  have n9_ := Aside0.mk ((by rw [hg]; exact Nat.ne_of_gt (blk_lt (g := gb140) (o := .cells #[.int .i64 x141000_2, .slice Ao53 x141001_2.length co53] 24 (0, 0)) (by (with_reducible repeat (first | refine Z4d ?_ _ | refine Z4e ?_ | refine Z4f ?_ _)); exact BK140.out)) : gb152 ≠ gb140))
                  have n10_ := Aside0.mk ((by rw [hg]; exact Nat.ne_of_lt (blk_lt (g := gb141) (o := .cells #[.int .i64 x142000_2, u142001] 24 (0, 0)) (by (with_reducible repeat (first | refine Z4d ?_ _ | refine Z4e ?_ | refine Z4f ?_ _)); exact BK141.out)) : gb141 ≠ gb152))
                  have n11_ := Aside0.mk ((by rw [hg]; exact Nat.ne_of_gt (blk_lt (g := gb141) (o := .cells #[.int .i64 x142000_2, u142001] 24 (0, 0)) (by (with_reducible repeat (first | refine Z4d ?_ _ | refine Z4e ?_ | refine Z4f ?_ _)); exact BK141.out)) : gb152 ≠ gb141))
                  clear HO_141001
                  clear HO_142001
                  clear BK140
                  clear BK141
                  clear HB
                  have HO_141001 := n0_
                  have HO_142001 := n1_
                  have BK140 := n2_
                  have BK141 := n3_
                  have HB := n4_
                  have BK152 := n5_
                  have GW152 := n6_
                  have GE152 := n7_
                  have NB140_152 := n8_
                  have NB152_140 := n9_
                  have NB141_152 := n10_
                  have NB152_141 := n11_
                  clear n0_ n1_ n2_ n3_ n4_ n5_ n6_ n7_ n8_ n9_ n10_ n11_
                  clear hb hbox hg
                  refine hK.out _ _ ⟨(Z4r BK140.out 0).trans rfl, (Z4r BK140.out 1).trans rfl, ((HB.out.cell (Z4g w _ hw145_0)).trans hw145_0), ((HB.out.cell (Z4g w _ hw146_0)).trans hw146_0)⟩ (fun hHeld => ?_)
                  clear hK K
                  refine norm_ (a' := ?_) ?_ ?_
                  rotate_left
                  ·
                   show Act.put _ (some 8) _ = _
                   simp only [Act.put, Z4a, Z4b, Z4c, i64_w, i32_w]
                   rfl
                  refine one_ (i := 10) (N := some 56) #[true, true, true, true, true, true, true, true, true, true, true, false, false, false, true, false, false] rfl rfl (one_of HT_.out (by kernel_rfl)) (by decide) (fun K hK => ?_)
                  refine goes_ Try.func12 (by kernel_rfl) rfl #[.agg #[.int .i64 x141000_2, .slice Ao53 x141001_2.length co53], .int .i64 (rd l0 x6_2), .agg #[.int .i64 0, .int .i64 (rd l0 x6_2), .string (⟨#[]⟩ : ByteArray)]] (by rfl) rfl rfl (by (try simp only [List.map_toArray, List.map_cons, List.map_nil]); first | done | rfl | (simp only [List.length_drop, List.length_take]; rfl)) ?_
                  with_reducible refine (window_Put.calls k3 x141000_2 _ _ x141001_2 (rd l0 x6_2) 0 (rd l0 x6_2) (⟨#[]⟩ : ByteArray) t147 t148 t151 _ ?side1 ?side2 A23.out).mono ?_
                  (case side1 => repeat (first | exact (Kd.V_reads' HO_141001.out).2.2 | (with_reducible refine Kd.C_alloc ?_ _) | (with_reducible refine Kd.C_drewN ?_ _) | (with_reducible refine Kd.C_drew ?_)))
                  (case side2 => exact (Kd.V_reads' HO_141001.out).2.1)
                  rintro e w56 ⟨v149, rfl, ho0, hb⟩
                  refine ⟨_, rfl, ?_⟩
                  have n0_ := Aside0.mk (Z4q (by (with_reducible repeat (first | apply Z4o | apply Z4m | apply Z4n)); exact HO_141001.out) hb)
                  have n1_ := Aside0.mk (Z4q (by (with_reducible repeat (first | apply Z4o | apply Z4m | apply Z4n)); exact HO_142001.out) hb)
                  have n2_ := Aside0.mk (Kd.V_lower (Z4p (ok' := fun k_ => k_ ≠ gb140 ∧ k_ ≠ gb141 ∧ k_ ≠ gb152) ho0 (fun k_ hk_ => ⟨(Kd.freshB (g := gb140) (o := .cells #[.int .i64 x141000_2, .slice Ao53 x141001_2.length co53] 24 (0, 0)) (by (with_reducible repeat (first | refine Z4d ?_ _ | refine Z4e ?_ | refine Z4f ?_ _)); exact BK140.out) k_ hk_), (Kd.freshB (g := gb141) (o := .cells #[.int .i64 x142000_2, u142001] 24 (0, 0)) (by (with_reducible repeat (first | refine Z4d ?_ _ | refine Z4e ?_ | refine Z4f ?_ _)); exact BK141.out) k_ hk_), (Kd.freshB (g := gb152) (o := .cells #[.int .i64 0, .slice none 0 0] 24 (0, 0)) (by (with_reducible repeat (first | refine Z4d ?_ _ | refine Z4e ?_ | refine Z4f ?_ _)); exact BK152.out) k_ hk_)⟩)) (below_size (by repeat (first | (with_reducible first | exact HB.out | apply Z4k | apply Z4i | apply Z4j | refine Z4l ?_ GE140.out | refine Z4l ?_ GE141.out | refine Z4l ?_ GE152.out) | exact HB.out))))
                  have n3_ := Aside0.mk (blk_below (g := gb140) (o := .cells #[.int .i64 x141000_2, .slice Ao53 x141001_2.length co53] 24 (0, 0)) (by (with_reducible repeat (first | refine Z4d ?_ _ | refine Z4e ?_ | refine Z4f ?_ _)); exact BK140.out) hb)
                  have n4_ := Aside0.mk (blk_below (g := gb141) (o := .cells #[.int .i64 x142000_2, u142001] 24 (0, 0)) (by (with_reducible repeat (first | refine Z4d ?_ _ | refine Z4e ?_ | refine Z4f ?_ _)); exact BK141.out) hb)
                  have n5_ := Aside0.mk (blk_below (g := gb152) (o := .cells #[.int .i64 0, .slice none 0 0] 24 (0, 0)) (by (with_reducible repeat (first | refine Z4d ?_ _ | refine Z4e ?_ | refine Z4f ?_ _)); exact BK152.out) hb)
                  have n6_ := Aside0.mk (below_step (by repeat (first | (with_reducible first | exact HB.out | apply Z4k | apply Z4i | apply Z4j | refine Z4l ?_ GE140.out | refine Z4l ?_ GE141.out | refine Z4l ?_ GE152.out) | exact HB.out)) hb)
                  clear HO_141001
                  clear HO_142001
                  clear BK140
                  clear BK141
                  clear BK152
                  clear HB
                  have HO_141001 := n0_
                  have HO_142001 := n1_
                  have HO150 := n2_
                  have BK140 := n3_
                  have BK141 := n4_
                  have BK152 := n5_
                  have HB := n6_
                  clear n0_ n1_ n2_ n3_ n4_ n5_ n6_
                  (try clear hb)
                  (try clear hb2)
                  (try clear hk)
                  (try clear hi)
                  (try clear ho0)
                  refine hK.out _ _ ⟨(Z4r BK140.out 0).trans rfl, (Z4r BK140.out 1).trans rfl, ((HB.out.cell (Z4g w _ hw145_0)).trans hw145_0), ((HB.out.cell (Z4g w _ hw146_0)).trans hw146_0)⟩ (fun hHeld => ?_)
                  clear hK K
                  refine norm_ (a' := ?_) ?_ ?_
                  rotate_left
                  ·
                   show Act.put _ (some 56) _ = _
                   simp only [Act.put, Z4a, Z4b, Z4c, i64_w, i32_w]
                   rfl
                  refine pure_ (i := 11) (N := some 45) (v := ?_) (a' := ?_) #[true, true, true, true, true, true, true, true, true, true, true, true, false, false, true, false, false] rfl rfl (any_of HT_.out (by kernel_rfl)) (fun _ _ _ h => h) (Or.inl ⟨by rfl, ?_⟩) ?_ ?_
                  rotate_left
                  ·
                   intro w'
                   go_simp
                   with_reducible rfl
                  rotate_left
                  ·
                   simp only [Act.put, Z4a, Z4b, Z4c, i64_w, i32_w]
                   rfl
                  refine pure_ (i := 12) (N := some 57) (v := ?_) (a' := ?_) #[true, true, true, true, true, true, true, true, true, true, true, true, true, false, true, false, false] rfl rfl (any_of HT_.out (by kernel_rfl)) (fun _ _ _ h => h) (Or.inl ⟨by rfl, ?_⟩) ?_ ?_
                  rotate_left
                  ·
                   intro w'
                   go_simp
                   with_reducible rfl
                  rotate_left
                  ·
                   simp only [Act.put, Z4a, Z4b, Z4c, i64_w, i32_w]
                   rfl
                  refine pure_ (i := 13) (N := some 58) (v := ?_) (a' := ?_) #[true, true, true, true, true, true, true, true, true, true, true, true, true, true, true, false, false] rfl rfl (any_of HT_.out (by kernel_rfl)) (fun _ _ _ h => h) (Or.inl ⟨by rfl, ?_⟩) ?_ ?_
                  rotate_left
                  ·
                   intro w'
                   go_simp
                   with_reducible rfl
                  rotate_left
                  ·
                   simp only [Act.put, Z4a, Z4b, Z4c, i64_w, i32_w]
                   rfl
                  exact norm_ (by simp only [putAll, Act.put, List.setIfInBounds_toArray, List.set_cons_zero, List.set_cons_succ]) (hCont (v149, gb152) _ ⟨hHeld, (by (with_reducible repeat (first | apply Z4o | apply Z4m | apply Z4n)); exact HO150.out), (by (with_reducible repeat (first | apply Z4o | apply Z4m | apply Z4n)); exact Z4p HO_141001.out (fun _ hk => ⟨hk.1.1, ⟨hk.1.2, hk.2⟩⟩)), (by (with_reducible repeat (first | apply Z4o | apply Z4m | apply Z4n)); exact Z4p HO_142001.out (fun _ hk => ⟨hk.1.1, ⟨hk.1.2, hk.2⟩⟩)), (by (with_reducible repeat (first | refine Z4d ?_ _ | refine Z4e ?_ | refine Z4f ?_ _)); exact BK140.out), (by (with_reducible repeat (first | refine Z4d ?_ _ | refine Z4e ?_ | refine Z4f ?_ _)); exact BK141.out), (by (with_reducible repeat (first | refine Z4d ?_ _ | refine Z4e ?_ | refine Z4f ?_ _)); exact BK152.out), GW152.out, GE152.out, NB140_152.out, NB152_140.out, NB141_152.out, NB152_141.out, (by repeat (first | (with_reducible first | exact HB.out | apply Z4k | apply Z4i | apply Z4j | refine Z4l ?_ GE140.out | refine Z4l ?_ GE141.out | refine Z4l ?_ GE152.out) | exact HB.out))⟩)
                rintro ⟨v149, gb152⟩ w57 ⟨hS_, h0_, h1_, h2_, h3_, h4_, h5_, h6_, h7_, h8_, h9_, h10_, h11_, h12_⟩
                have n0_ : Aside0 (Kd.V k42 42 w57 w.heap.size (fun k_ => k_ ≠ gb140 ∧ k_ ≠ gb141 ∧ k_ ≠ gb152) v149 t148) := ⟨h0_⟩
                have n1_ : Aside0 (Kd.V k42 42 w57 w.heap.size (fun k_ => k_ ≠ gb140 ∧ k_ ≠ gb141 ∧ k_ ≠ gb152) (.slice Ao53 x141001_2.length co53) x141001_2) := ⟨h1_⟩
                have n2_ : Aside0 (Kd.V k42 42 w57 w.heap.size (fun k_ => k_ ≠ gb140 ∧ k_ ≠ gb141 ∧ k_ ≠ gb152) u142001 x142001_2) := ⟨h2_⟩
                have n3_ : Aside0 (w57.heap[gb140]? = some (.cells #[.int .i64 x141000_2, .slice Ao53 x141001_2.length co53] 24 (0, 0))) := ⟨h3_⟩
                have n4_ : Aside0 (w57.heap[gb141]? = some (.cells #[.int .i64 x142000_2, u142001] 24 (0, 0))) := ⟨h4_⟩
                have n5_ : Aside0 (w57.heap[gb152]? = some (.cells #[.int .i64 0, .slice none 0 0] 24 (0, 0))) := ⟨h5_⟩
                have n6_ : Aside0 (w.heap.size ≤ gb152) := ⟨h6_⟩
                have n7_ : Aside0 (w.heap.size ≤ gb152) := ⟨h7_⟩
                have n8_ : Aside0 (gb140 ≠ gb152) := ⟨h8_⟩
                have n9_ : Aside0 (gb152 ≠ gb140) := ⟨h9_⟩
                have n10_ : Aside0 (gb141 ≠ gb152) := ⟨h10_⟩
                have n11_ : Aside0 (gb152 ≠ gb141) := ⟨h11_⟩
                have n12_ : Aside0 (Below w.heap.size w w57) := ⟨h12_⟩
                clear HO_141001
                clear HO_142001
                clear BK140
                clear BK141
                clear HB
                clear h0_ h1_ h2_ h3_ h4_ h5_ h6_ h7_ h8_ h9_ h10_ h11_ h12_
                have HO150 := n0_
                have HO_141001 := n1_
                have HO_142001 := n2_
                have BK140 := n3_
                have BK141 := n4_
                have BK152 := n5_
                have GW152 := n6_
                have GE152 := n7_
                have NB140_152 := n8_
                have NB152_140 := n9_
                have NB141_152 := n10_
                have NB152_141 := n11_
                have HB := n12_
                clear n0_ n1_ n2_ n3_ n4_ n5_ n6_ n7_ n8_ n9_ n10_ n11_ n12_
                have hHeld : w57.cell? ⟨gb140, 0, none⟩ = some (.int .i64 x141000_2) ∧ w57.cell? ⟨gb140, 1, none⟩ = some (.slice Ao53 x141001_2.length co53) ∧ w57.cell? (ad145.add (x6_2).toNat) = some (.int .i64 (rd l0 x6_2)) ∧ w57.cell? (ad145.add (x6_2).toNat) = some (.int .i64 (rd l0 x6_2)) := hS_
                obtain ⟨Ao59, co59, eo59⟩ := Kd.V_slice HO150.out
                (first | subst eo59 | (injection eo59 with f1_ f2_ f3_; have f4_ := f1_.symm; have f5_ := f3_.symm; clear f1_ f2_ f3_; subst f4_; subst f5_))
                refine norm_ (a' := ?_) ?_ ?_
                rotate_left
                ·
                 simp only [putAll, Act.put, List.setIfInBounds_toArray, List.set_cons_zero, List.set_cons_succ]
                 rfl
                refine one_ (i := 15) (N := none) #[true, true, true, true, true, true, true, true, true, true, true, true, true, true, true, true, false] rfl rfl (one_of HT_.out (by kernel_rfl)) (by decide) (fun K hK => ?_)
                have hs58 : w57.cell? ⟨gb152, 0, none⟩ = some (.int .i64 0) := (Z4r BK152.out 0).trans rfl
                have hfs58 := blk_frozen BK152.out 0
                have hns58_0 := NB140_152.out
                have hns58_1 := NB141_152.out
                have hms58_0 := NB152_140.out
                have hms58_1 := NB152_141.out
                have hs60 : w57.cell? ⟨gb152, 1, none⟩ = some (.slice none 0 0) := (Z4r BK152.out 1).trans rfl
                have hfs60 := blk_frozen BK152.out 1
                have hns60_0 := NB140_152.out
                have hns60_1 := NB141_152.out
                have hms60_0 := NB152_140.out
                have hms60_1 := NB152_141.out
                refine skip_ (w1 := ?_) (by rfl) rfl ?_ ?_
                rotate_left
                ·
                 go_simp
                 rfl
                refine hK.out _ _ ⟨((cell_far (p := ⟨gb152, _, none⟩) NB140_152.out _).trans (((cell_far (p := ⟨gb152, _, none⟩) NB140_152.out _).trans (hHeld.1)))), ((cell_far (p := ⟨gb152, _, none⟩) NB140_152.out _).trans (((cell_far (p := ⟨gb152, _, none⟩) NB140_152.out _).trans (hHeld.2.1)))), ((cell_far (p := ⟨gb152, _, none⟩) (by first | exact Nat.ne_of_lt (Z4h (by have := Z4g _ _ hw145_0; first | rwa [add_block] at this | exact this) GW152.out) | (rw [add_block]; exact Nat.ne_of_lt (Z4h (by have := Z4g _ _ hw145_0; first | rwa [add_block] at this | exact this) GW152.out)) | (show (Addr.add _ _).block ≠ _; rw [add_block]; exact Nat.ne_of_lt (Z4h (by have := Z4g _ _ hw145_0; first | rwa [add_block] at this | exact this) GW152.out)) | (dsimp only; exact Nat.ne_of_lt (Z4h (by have := Z4g _ _ hw145_0; first | rwa [add_block] at this | exact this) GW152.out))) _).trans (((cell_far (p := ⟨gb152, _, none⟩) (by first | exact Nat.ne_of_lt (Z4h (by have := Z4g _ _ hw145_0; first | rwa [add_block] at this | exact this) GW152.out) | (rw [add_block]; exact Nat.ne_of_lt (Z4h (by have := Z4g _ _ hw145_0; first | rwa [add_block] at this | exact this) GW152.out)) | (show (Addr.add _ _).block ≠ _; rw [add_block]; exact Nat.ne_of_lt (Z4h (by have := Z4g _ _ hw145_0; first | rwa [add_block] at this | exact this) GW152.out)) | (dsimp only; exact Nat.ne_of_lt (Z4h (by have := Z4g _ _ hw145_0; first | rwa [add_block] at this | exact this) GW152.out))) _).trans (hHeld.2.2.1)))), ((cell_far (p := ⟨gb152, _, none⟩) (by first | exact Nat.ne_of_lt (Z4h (by have := Z4g _ _ hw146_0; first | rwa [add_block] at this | exact this) GW152.out) | (rw [add_block]; exact Nat.ne_of_lt (Z4h (by have := Z4g _ _ hw146_0; first | rwa [add_block] at this | exact this) GW152.out)) | (show (Addr.add _ _).block ≠ _; rw [add_block]; exact Nat.ne_of_lt (Z4h (by have := Z4g _ _ hw146_0; first | rwa [add_block] at this | exact this) GW152.out)) | (dsimp only; exact Nat.ne_of_lt (Z4h (by have := Z4g _ _ hw146_0; first | rwa [add_block] at this | exact this) GW152.out))) _).trans (((cell_far (p := ⟨gb152, _, none⟩) (by first | exact Nat.ne_of_lt (Z4h (by have := Z4g _ _ hw146_0; first | rwa [add_block] at this | exact this) GW152.out) | (rw [add_block]; exact Nat.ne_of_lt (Z4h (by have := Z4g _ _ hw146_0; first | rwa [add_block] at this | exact this) GW152.out)) | (show (Addr.add _ _).block ≠ _; rw [add_block]; exact Nat.ne_of_lt (Z4h (by have := Z4g _ _ hw146_0; first | rwa [add_block] at this | exact this) GW152.out)) | (dsimp only; exact Nat.ne_of_lt (Z4h (by have := Z4g _ _ hw146_0; first | rwa [add_block] at this | exact this) GW152.out))) _).trans (hHeld.2.2.2))))⟩ (fun hHeld => ?_)
                clear hK K
                refine pure_ (i := 16) (N := some 9) (v := ?_) (a' := ?_) #[true, true, true, true, true, true, true, true, true, true, true, true, true, true, true, true, true] rfl rfl (any_of HT_.out (by kernel_rfl)) (fun _ _ _ h => h) (Or.inl ⟨by rfl, ?_⟩) ?_ ?_
                rotate_left
                ·
                 intro w'
                 go_simp
                 with_reducible rfl
                rotate_left
                ·
                 simp only [Act.put, Z4a, Z4b, Z4c, i64_w, i32_w]
                 rfl
                refine done_ (done_of HT_.out (by kernel_rfl)) ?_
                have hnb61 := NB152_140.out
                have hnc61 := NB140_152.out
                have hnb62 := NB152_141.out
                have hnc62 := NB141_152.out
                have hcz63_0 : w57.cell? ⟨gb152, 0, none⟩ = some (.int .i64 0) := (Z4r BK152.out 0).trans rfl
                have hcz63_1 : w57.cell? ⟨gb152, 1, none⟩ = some (.slice none 0 0) := (Z4r BK152.out 1).trans rfl
                have hfz63_0 := blk_frozen BK152.out 0
                have hfz63_1 := blk_frozen BK152.out 1
                have hnb64 := NB140_141.out
                have hnc64 := NB141_140.out
                have hcz65_0 : w57.cell? ⟨gb140, 0, none⟩ = some (.int .i64 x141000_2) := (Z4r BK140.out 0).trans rfl
                have hcz65_1 : w57.cell? ⟨gb140, 1, none⟩ = some (.slice Ao53 x141001_2.length co53) := (Z4r BK140.out 1).trans rfl
                have hfz65_0 := blk_frozen BK140.out 0
                have hfz65_1 := blk_frozen BK140.out 1
                have p153 : 0 ≤ ((ji25) : Int) := of_decide_eq_true (by first | (with_reducible assumption) | assumption)
                have q153 : (ji25) < (l0.length : Int) := of_decide_eq_true (by first | (with_reducible assumption) | assumption)
                obtain ⟨ad153, e153, hx153_0⟩ := Kd.at_int HR0.out (ji25) p153 q153
                obtain rfl : ad145 = ad153 := (by injection e153)
                have hn153_0 : ad145.block ≠ gb152 := Nat.ne_of_lt (Z4h (by have := Z4g _ _ hx153_0; first | rwa [add_block] at this | exact this) GW152.out)
                have hn153_1 : ad145.block ≠ gb152 := Nat.ne_of_lt (Z4h (by have := Z4g _ _ hx153_0; first | rwa [add_block] at this | exact this) GW152.out)
                have hn153_2 : ad145.block ≠ gb140 := Nat.ne_of_lt (Z4h (by have := Z4g _ _ hx153_0; first | rwa [add_block] at this | exact this) GW140.out)
                have hn153_3 : ad145.block ≠ gb140 := Nat.ne_of_lt (Z4h (by have := Z4g _ _ hx153_0; first | rwa [add_block] at this | exact this) GW140.out)
                replace hx153_0 := (HB.out.cell (Z4g w _ hx153_0)).trans hx153_0
                replace hx153_0 := (cell_far (p := ⟨gb152, 0, none⟩) (by first | (rw [add_block]; exact hn153_0) | (show (Addr.add _ _).block ≠ _; rw [add_block]; exact hn153_0) | exact hn153_0) (.int .i64 t147)).trans hx153_0
                replace hx153_0 := (cell_far (p := ⟨gb152, 1, none⟩) (by first | (rw [add_block]; exact hn153_1) | (show (Addr.add _ _).block ≠ _; rw [add_block]; exact hn153_1) | exact hn153_1) (.slice Ao59 t148.length co59)).trans hx153_0
                replace hx153_0 := (cell_far (p := ⟨gb140, 0, none⟩) (by first | (rw [add_block]; exact hn153_2) | (show (Addr.add _ _).block ≠ _; rw [add_block]; exact hn153_2) | exact hn153_2) (.int .i64 t147)).trans hx153_0
                replace hx153_0 := (cell_far (p := ⟨gb140, 1, none⟩) (by first | (rw [add_block]; exact hn153_3) | (show (Addr.add _ _).block ≠ _; rw [add_block]; exact hn153_3) | exact hn153_3) (.slice Ao59 t148.length co59)).trans hx153_0
                clear hn153_0
                clear hn153_1
                clear hn153_2
                clear hn153_3
                replace p153 := eq_true p153
                replace q153 := eq_true q153
                have hcz66_0 : w57.cell? ⟨gb141, 0, none⟩ = some (.int .i64 x142000_2) := (Z4r BK141.out 0).trans rfl
                have hcz66_1 : w57.cell? ⟨gb141, 1, none⟩ = some (u142001) := (Z4r BK141.out 1).trans rfl
                have hfz66_0 := blk_frozen BK141.out 0
                have hfz66_1 := blk_frozen BK141.out 1
                obtain ⟨Ao67, co67, eo67⟩ := Kd.V_slice HO_142001.out
                subst eo67
                try go_wp2_with (first | ((with_reducible refine gate_callee (f := 12) rfl ?_); refine goesL_ (some 75) rfl rfl Try.func12 (by kernel_rfl) rfl #[.agg #[.int .i64 x142000_2, .slice Ao67 x142001_2.length co67], .int .i64 (rd l0 (ji25)), .agg #[.int .i64 0, .int .i64 (rd l0 (ji25)), .string (⟨#[]⟩ : ByteArray)]] rfl (by (try simp only [List.map_toArray, List.map_cons, List.map_nil]); first | done | (simp only [hji25]; rfl) | rfl | (simp only [List.length_drop, List.length_take]; rfl)) ?_; (with_reducible refine (window_Put.calls k3 x142000_2 _ _ x142001_2 (rd l0 (ji25)) 0 (rd l0 (ji25)) (⟨#[]⟩ : ByteArray) t154 t155 t158 _ ?side1 ?side2 A28.out).mono ?_); (case side1 => refine (Kd.V_reads' (e := 42) (base := w.heap.size) (ok := fun k_ => (k_ ≠ gb140 ∧ (k_ ≠ gb141 ∧ k_ ≠ gb152))) (n := x142001_2.length) (c := co67) ?_).2.2; exact (by (with_reducible repeat (first | apply Z4o | apply Z4m | apply Z4n)); exact (Z4p (Z4p (Kd.V_far (p := ⟨gb140, 1, none⟩) (Kd.V_far (p := ⟨gb140, 0, none⟩) (Kd.V_far (p := ⟨gb152, 1, none⟩) (Kd.V_far (p := ⟨gb152, 0, none⟩) (Z4p (Z4p HO_142001.out (fun k_ hk => (⟨hk, hk.2.2⟩ : _ ∧ k_ ≠ gb152))) (fun k_ hk => (⟨hk, hk.1.1⟩ : _ ∧ k_ ≠ gb140))) (fun _ hk => hk.1.2) (.int .i64 t147)) (fun _ hk => hk.1.2) (.slice Ao59 t148.length co59)) (fun _ hk => hk.2) (.int .i64 t147)) (fun _ hk => hk.2) (.slice Ao59 t148.length co59)) (fun _ h_ => h_.1)) (fun _ h_ => h_.1)))); (case side2 => exact (Kd.V_reads' HO_142001.out).2.1); rintro e w68 ⟨v156, rfl, ho0, hb⟩; refine ⟨_, rfl, ?_⟩; have n0_ := Aside0.mk (Z4q (by (with_reducible repeat (first | apply Z4o | apply Z4m | apply Z4n)); exact (Z4p (Z4p (Kd.V_far (p := ⟨gb140, 1, none⟩) (Kd.V_far (p := ⟨gb140, 0, none⟩) (Kd.V_far (p := ⟨gb152, 1, none⟩) (Kd.V_far (p := ⟨gb152, 0, none⟩) (Z4p (Z4p HO_141001.out (fun k_ hk => (⟨hk, hk.2.2⟩ : _ ∧ k_ ≠ gb152))) (fun k_ hk => (⟨hk, hk.1.1⟩ : _ ∧ k_ ≠ gb140))) (fun _ hk => hk.1.2) (.int .i64 t147)) (fun _ hk => hk.1.2) (.slice Ao59 t148.length co59)) (fun _ hk => hk.2) (.int .i64 t147)) (fun _ hk => hk.2) (.slice Ao59 t148.length co59)) (fun _ h_ => h_.1)) (fun _ h_ => h_.1))) hb); have n1_ := Aside0.mk (Z4q (by (with_reducible repeat (first | apply Z4o | apply Z4m | apply Z4n)); exact (Z4p (Z4p (Kd.V_far (p := ⟨gb140, 1, none⟩) (Kd.V_far (p := ⟨gb140, 0, none⟩) (Kd.V_far (p := ⟨gb152, 1, none⟩) (Kd.V_far (p := ⟨gb152, 0, none⟩) (Z4p (Z4p HO_142001.out (fun k_ hk => (⟨hk, hk.2.2⟩ : _ ∧ k_ ≠ gb152))) (fun k_ hk => (⟨hk, hk.1.1⟩ : _ ∧ k_ ≠ gb140))) (fun _ hk => hk.1.2) (.int .i64 t147)) (fun _ hk => hk.1.2) (.slice Ao59 t148.length co59)) (fun _ hk => hk.2) (.int .i64 t147)) (fun _ hk => hk.2) (.slice Ao59 t148.length co59)) (fun _ h_ => h_.1)) (fun _ h_ => h_.1))) hb); have n2_ := Aside0.mk (Z4q (by (with_reducible repeat (first | apply Z4o | apply Z4m | apply Z4n)); exact (Z4p (Z4p (Kd.V_far (p := ⟨gb140, 1, none⟩) (Kd.V_far (p := ⟨gb140, 0, none⟩) (Kd.V_far (p := ⟨gb152, 1, none⟩) (Kd.V_far (p := ⟨gb152, 0, none⟩) (Z4p (Z4p HO150.out (fun k_ hk => (⟨hk, hk.2.2⟩ : _ ∧ k_ ≠ gb152))) (fun k_ hk => (⟨hk, hk.1.1⟩ : _ ∧ k_ ≠ gb140))) (fun _ hk => hk.1.2) (.int .i64 t147)) (fun _ hk => hk.1.2) (.slice Ao59 t148.length co59)) (fun _ hk => hk.2) (.int .i64 t147)) (fun _ hk => hk.2) (.slice Ao59 t148.length co59)) (fun _ h_ => h_.1)) (fun _ h_ => h_.1))) hb); have n3_ := Aside0.mk (Kd.V_lower (Z4p (ok' := fun k_ => k_ ≠ gb140 ∧ k_ ≠ gb141 ∧ k_ ≠ gb152) ho0 (fun k_ hk_ => ⟨(Kd.freshB (g := gb140) (o := .cells #[.int .i64 t147, .slice Ao59 t148.length co59] 24 (0, 0)) (by (with_reducible repeat (first | refine Z4d ?_ _ | refine Z4e ?_ | refine Z4f ?_ _)); refine blk_put (cs := #[.int .i64 t147, .slice Ao53 x141001_2.length co53]) ?_ 1 _ rfl; (with_reducible repeat (first | refine Z4d ?_ _ | refine Z4e ?_ | refine Z4f ?_ _)); refine blk_put (cs := #[.int .i64 x141000_2, .slice Ao53 x141001_2.length co53]) ?_ 0 _ rfl; (with_reducible repeat (first | refine Z4d ?_ _ | refine Z4e ?_ | refine Z4f ?_ _)); refine blk_far ?_ NB140_152.out _; (with_reducible repeat (first | refine Z4d ?_ _ | refine Z4e ?_ | refine Z4f ?_ _)); refine blk_far ?_ NB140_152.out _; (with_reducible repeat (first | refine Z4d ?_ _ | refine Z4e ?_ | refine Z4f ?_ _)); exact BK140.out) k_ hk_), (Kd.freshB (g := gb141) (o := .cells #[.int .i64 x142000_2, .slice Ao67 x142001_2.length co67] 24 (0, 0)) (by (with_reducible repeat (first | refine Z4d ?_ _ | refine Z4e ?_ | refine Z4f ?_ _)); refine blk_far ?_ NB141_140.out _; (with_reducible repeat (first | refine Z4d ?_ _ | refine Z4e ?_ | refine Z4f ?_ _)); refine blk_far ?_ NB141_140.out _; (with_reducible repeat (first | refine Z4d ?_ _ | refine Z4e ?_ | refine Z4f ?_ _)); refine blk_far ?_ NB141_152.out _; (with_reducible repeat (first | refine Z4d ?_ _ | refine Z4e ?_ | refine Z4f ?_ _)); refine blk_far ?_ NB141_152.out _; (with_reducible repeat (first | refine Z4d ?_ _ | refine Z4e ?_ | refine Z4f ?_ _)); exact BK141.out) k_ hk_), (Kd.freshB (g := gb152) (o := .cells #[.int .i64 t147, .slice Ao59 t148.length co59] 24 (0, 0)) (by (with_reducible repeat (first | refine Z4d ?_ _ | refine Z4e ?_ | refine Z4f ?_ _)); refine blk_far ?_ NB152_140.out _; (with_reducible repeat (first | refine Z4d ?_ _ | refine Z4e ?_ | refine Z4f ?_ _)); refine blk_far ?_ NB152_140.out _; (with_reducible repeat (first | refine Z4d ?_ _ | refine Z4e ?_ | refine Z4f ?_ _)); refine blk_put (cs := #[.int .i64 t147, .slice none 0 0]) ?_ 1 _ rfl; (with_reducible repeat (first | refine Z4d ?_ _ | refine Z4e ?_ | refine Z4f ?_ _)); refine blk_put (cs := #[.int .i64 0, .slice none 0 0]) ?_ 0 _ rfl; (with_reducible repeat (first | refine Z4d ?_ _ | refine Z4e ?_ | refine Z4f ?_ _)); exact BK152.out) k_ hk_)⟩)) (below_size (by repeat (first | (with_reducible first | exact HB.out | apply Z4k | apply Z4i | apply Z4j | refine Z4l ?_ GE140.out | refine Z4l ?_ GE141.out | refine Z4l ?_ GE152.out) | exact HB.out)))); have n4_ := Aside0.mk (blk_below (g := gb140) (o := .cells #[.int .i64 t147, .slice Ao59 t148.length co59] 24 (0, 0)) (by (with_reducible repeat (first | refine Z4d ?_ _ | refine Z4e ?_ | refine Z4f ?_ _)); refine blk_put (cs := #[.int .i64 t147, .slice Ao53 x141001_2.length co53]) ?_ 1 _ rfl; (with_reducible repeat (first | refine Z4d ?_ _ | refine Z4e ?_ | refine Z4f ?_ _)); refine blk_put (cs := #[.int .i64 x141000_2, .slice Ao53 x141001_2.length co53]) ?_ 0 _ rfl; (with_reducible repeat (first | refine Z4d ?_ _ | refine Z4e ?_ | refine Z4f ?_ _)); refine blk_far ?_ NB140_152.out _; (with_reducible repeat (first | refine Z4d ?_ _ | refine Z4e ?_ | refine Z4f ?_ _)); refine blk_far ?_ NB140_152.out _; (with_reducible repeat (first | refine Z4d ?_ _ | refine Z4e ?_ | refine Z4f ?_ _)); exact BK140.out) hb); have n5_ := Aside0.mk (blk_below (g := gb141) (o := .cells #[.int .i64 x142000_2, .slice Ao67 x142001_2.length co67] 24 (0, 0)) (by (with_reducible repeat (first | refine Z4d ?_ _ | refine Z4e ?_ | refine Z4f ?_ _)); refine blk_far ?_ NB141_140.out _; (with_reducible repeat (first | refine Z4d ?_ _ | refine Z4e ?_ | refine Z4f ?_ _)); refine blk_far ?_ NB141_140.out _; (with_reducible repeat (first | refine Z4d ?_ _ | refine Z4e ?_ | refine Z4f ?_ _)); refine blk_far ?_ NB141_152.out _; (with_reducible repeat (first | refine Z4d ?_ _ | refine Z4e ?_ | refine Z4f ?_ _)); refine blk_far ?_ NB141_152.out _; (with_reducible repeat (first | refine Z4d ?_ _ | refine Z4e ?_ | refine Z4f ?_ _)); exact BK141.out) hb); have n6_ := Aside0.mk (blk_below (g := gb152) (o := .cells #[.int .i64 t147, .slice Ao59 t148.length co59] 24 (0, 0)) (by (with_reducible repeat (first | refine Z4d ?_ _ | refine Z4e ?_ | refine Z4f ?_ _)); refine blk_far ?_ NB152_140.out _; (with_reducible repeat (first | refine Z4d ?_ _ | refine Z4e ?_ | refine Z4f ?_ _)); refine blk_far ?_ NB152_140.out _; (with_reducible repeat (first | refine Z4d ?_ _ | refine Z4e ?_ | refine Z4f ?_ _)); refine blk_put (cs := #[.int .i64 t147, .slice none 0 0]) ?_ 1 _ rfl; (with_reducible repeat (first | refine Z4d ?_ _ | refine Z4e ?_ | refine Z4f ?_ _)); refine blk_put (cs := #[.int .i64 0, .slice none 0 0]) ?_ 0 _ rfl; (with_reducible repeat (first | refine Z4d ?_ _ | refine Z4e ?_ | refine Z4f ?_ _)); exact BK152.out) hb); have n7_ := Aside0.mk (below_step (by repeat (first | (with_reducible first | exact HB.out | apply Z4k | apply Z4i | apply Z4j | refine Z4l ?_ GE140.out | refine Z4l ?_ GE141.out | refine Z4l ?_ GE152.out) | exact HB.out)) hb); clear HO_141001; clear HO_142001; clear HO150; clear BK140; clear BK141; clear BK152; clear HB; have HO_141001 := n0_; have HO_142001 := n1_; have HO150 := n2_; have HO157 := n3_; have BK140 := n4_; have BK141 := n5_; have BK152 := n6_; have HB := n7_; clear n0_ n1_ n2_ n3_ n4_ n5_ n6_ n7_; (try clear hb); (try clear hb2); (try clear hk); (try clear hi); (try clear ho0)) | ((with_reducible refine gate_dst (N := 11) rfl ?_); (try (refine gate_guard (by rfl) ?_; dsimp only)); refine box_event ?hg (N := 11) ?hd (cs := #[.int .i64 0, .slice none 0 0]) (t := 24) ?hr ?_; (case hd => rfl); (case hg => rfl); (case hr => first | (go_simp; done) | (go_simp; rfl)); intro gb159 hg w69 hbox hb; have n0_ := Aside0.mk (Z4q (Kd.V_elderB (by (with_reducible repeat (first | apply Z4o | apply Z4m | apply Z4n)); exact HO_141001.out) gb159 (Nat.le_of_eq hg.symm)) hb); have n1_ := Aside0.mk (Z4q (Kd.V_elderB (by (with_reducible repeat (first | apply Z4o | apply Z4m | apply Z4n)); exact HO_142001.out) gb159 (Nat.le_of_eq hg.symm)) hb); have n2_ := Aside0.mk (Z4q (Kd.V_elderB (by (with_reducible repeat (first | apply Z4o | apply Z4m | apply Z4n)); exact HO150.out) gb159 (Nat.le_of_eq hg.symm)) hb); have n3_ := Aside0.mk (Z4q (Kd.V_elderB (by (with_reducible repeat (first | apply Z4o | apply Z4m | apply Z4n)); exact HO157.out) gb159 (Nat.le_of_eq hg.symm)) hb); have n4_ := Aside0.mk (blk_below (g := gb140) (o := .cells #[.int .i64 t147, .slice Ao59 t148.length co59] 24 (0, 0)) (by (with_reducible repeat (first | refine Z4d ?_ _ | refine Z4e ?_ | refine Z4f ?_ _)); exact BK140.out) hb); have n5_ := Aside0.mk (blk_below (g := gb141) (o := .cells #[.int .i64 x142000_2, .slice Ao67 x142001_2.length co67] 24 (0, 0)) (by (with_reducible repeat (first | refine Z4d ?_ _ | refine Z4e ?_ | refine Z4f ?_ _)); exact BK141.out) hb); have n6_ := Aside0.mk (blk_below (g := gb152) (o := .cells #[.int .i64 t147, .slice Ao59 t148.length co59] 24 (0, 0)) (by (with_reducible repeat (first | refine Z4d ?_ _ | refine Z4e ?_ | refine Z4f ?_ _)); exact BK152.out) hb); have n7_ := Aside0.mk (below_step (by repeat (first | (with_reducible first | exact HB.out | apply Z4k | apply Z4i | apply Z4j | refine Z4l ?_ GE140.out | refine Z4l ?_ GE141.out | refine Z4l ?_ GE152.out) | exact HB.out)) hb); have n8_ := Aside0.mk (hbox); have n9_ := Aside0.mk ((by rw [hg]; exact (below_size (by repeat (first | (with_reducible first | exact HB.out | apply Z4k | apply Z4i | apply Z4j | refine Z4l ?_ GE140.out | refine Z4l ?_ GE141.out | refine Z4l ?_ GE152.out) | exact HB.out))) : w.heap.size ≤ gb159)); have n10_ := Aside0.mk ((by rw [hg]; exact (below_size (by repeat (first | (with_reducible first | exact HB.out | apply Z4k | apply Z4i | apply Z4j | refine Z4l ?_ GE140.out | refine Z4l ?_ GE141.out | refine Z4l ?_ GE152.out) | exact HB.out))) : w.heap.size ≤ gb159)); have n11_ := Aside0.mk ((by rw [hg]; exact Nat.ne_of_lt (blk_lt (g := gb140) (o := .cells #[.int .i64 t147, .slice Ao59 t148.length co59] 24 (0, 0)) (by (with_reducible repeat (first | refine Z4d ?_ _ | refine Z4e ?_ | refine Z4f ?_ _)); exact BK140.out)) : gb140 ≠ gb159)); have n12_ := Aside0.mk ((by rw [hg]; exact Nat.ne_of_gt (blk_lt (g := gb140) (o := .cells #[.int .i64 t147, .slice Ao59 t148.length co59] 24 (0, 0)) (by (with_reducible repeat (first | refine Z4d ?_ _ | refine Z4e ?_ | refine Z4f ?_ _)); exact BK140.out)) : gb159 ≠ gb140)); have n13_ := Aside0.mk ((by rw [hg]; exact Nat.ne_of_lt (blk_lt (g := gb141) (o := .cells #[.int .i64 x142000_2, .slice Ao67 x142001_2.length co67] 24 (0, 0)) (by (with_reducible repeat (first | refine Z4d ?_ _ | refine Z4e ?_ | refine Z4f ?_ _)); exact BK141.out)) : gb141 ≠ gb159)); have n14_ := Aside0.mk ((by rw [hg]; exact Nat.ne_of_gt (blk_lt (g := gb141) (o := .cells #[.int .i64 x142000_2, .slice Ao67 x142001_2.length co67] 24 (0, 0)) (by (with_reducible repeat (first | refine Z4d ?_ _ | refine Z4e ?_ | refine Z4f ?_ _)); exact BK141.out)) : gb159 ≠ gb141)); have n15_ := Aside0.mk ((by rw [hg]; exact Nat.ne_of_lt (blk_lt (g := gb152) (o := .cells #[.int .i64 t147, .slice Ao59 t148.length co59] 24 (0, 0)) (by (with_reducible repeat (first | refine Z4d ?_ _ | refine Z4e ?_ | refine Z4f ?_ _)); exact BK152.out)) : gb152 ≠ gb159)); have n16_ := Aside0.mk ((by rw [hg]; exact Nat.ne_of_gt (blk_lt (g := gb152) (o := .cells #[.int .i64 t147, .slice Ao59 t148.length co59] 24 (0, 0)) (by (with_reducible repeat (first | refine Z4d ?_ _ | refine Z4e ?_ | refine Z4f ?_ _)); exact BK152.out)) : gb159 ≠ gb152)); clear HO_141001; clear HO_142001; clear HO150; clear HO157; clear BK140; clear BK141; clear BK152; clear HB; have HO_141001 := n0_; have HO_142001 := n1_; have HO150 := n2_; have HO157 := n3_; have BK140 := n4_; have BK141 := n5_; have BK152 := n6_; have HB := n7_; have BK159 := n8_; have GW159 := n9_; have GE159 := n10_; have NB140_159 := n11_; have NB159_140 := n12_; have NB141_159 := n13_; have NB159_141 := n14_; have NB152_159 := n15_; have NB159_152 := n16_; clear n0_ n1_ n2_ n3_ n4_ n5_ n6_ n7_ n8_ n9_ n10_ n11_ n12_ n13_ n14_ n15_ n16_; clear hb hbox hg; have hnb70 := NB159_140.out; have hnc70 := NB140_159.out; have hnb71 := NB159_141.out; have hnc71 := NB141_159.out; have hnb72 := NB159_152.out; have hnc72 := NB152_159.out; have hcz73_0 : w69.cell? ⟨gb159, 0, none⟩ = some (.int .i64 0) := (Z4r BK159.out 0).trans rfl; have hcz73_1 : w69.cell? ⟨gb159, 1, none⟩ = some (.slice none 0 0) := (Z4r BK159.out 1).trans rfl; have hfz73_0 := blk_frozen BK159.out 0; have hfz73_1 := blk_frozen BK159.out 1; obtain ⟨Ao74, co74, eo74⟩ := Kd.V_slice HO157.out; subst eo74))
                go_roundg k3
                case measure => have := HJ2.out; have := HK2.out; have := HK3.out; omega
                case rel => exact ⟨(wrap64 (x6_2 + 1)), (t147), (t148), (x142000_2), (x142001_2), (.slice Ao59 t148.length co59), (.slice Ao67 x142001_2.length co67), (by first | rfl | (simp; done) | (simp [*]; done)), H', ⟨by have := HJ2.out; have := HK2.out; have := HK3.out; omega⟩, ⟨by (with_reducible repeat (first | apply Z4o | apply Z4m | apply Z4n)); exact Z4p (Kd.V_far (p := ⟨gb159, 1, none⟩) (Kd.V_far (p := ⟨gb159, 0, none⟩) (Z4p HO150.out (fun k_ hk => (⟨hk, hk.2⟩ : _ ∧ k_ ≠ gb159))) (fun _ hk => hk.2) (.int .i64 t154)) (fun _ hk => hk.2) (.slice Ao74 t155.length co74)) (fun _ hk => ⟨hk.1.1.1, hk.1.1.2.1⟩)⟩, ⟨by (with_reducible repeat (first | apply Z4o | apply Z4m | apply Z4n)); exact Z4p (Kd.V_far (p := ⟨gb159, 1, none⟩) (Kd.V_far (p := ⟨gb159, 0, none⟩) (Z4p HO_142001.out (fun k_ hk => (⟨hk, hk.2⟩ : _ ∧ k_ ≠ gb159))) (fun _ hk => hk.2) (.int .i64 t154)) (fun _ hk => hk.2) (.slice Ao74 t155.length co74)) (fun _ hk => ⟨hk.1.1.1, hk.1.1.2.1⟩)⟩, ⟨by (with_reducible repeat (first | refine Z4d ?_ _ | refine Z4e ?_ | refine Z4f ?_ _)); refine blk_far ?_ NB140_159.out _; (with_reducible repeat (first | refine Z4d ?_ _ | refine Z4e ?_ | refine Z4f ?_ _)); refine blk_far ?_ NB140_159.out _; (with_reducible repeat (first | refine Z4d ?_ _ | refine Z4e ?_ | refine Z4f ?_ _)); exact BK140.out⟩, ⟨by (with_reducible repeat (first | refine Z4d ?_ _ | refine Z4e ?_ | refine Z4f ?_ _)); refine blk_far ?_ NB141_159.out _; (with_reducible repeat (first | refine Z4d ?_ _ | refine Z4e ?_ | refine Z4f ?_ _)); refine blk_far ?_ NB141_159.out _; (with_reducible repeat (first | refine Z4d ?_ _ | refine Z4e ?_ | refine Z4f ?_ _)); exact BK141.out⟩, ⟨by repeat (first | (with_reducible first | exact HB.out | apply Z4k | apply Z4i | apply Z4j | refine Z4l ?_ GE140.out | refine Z4l ?_ GE141.out | refine Z4l ?_ GE152.out | refine Z4l ?_ GE159.out) | exact HB.out)⟩⟩
              ·
               rw [if_neg c27] at H
               exact absurd H (by simp)
             ·
              rw [if_neg c26] at H
              exact absurd H (by simp)
            ·
             rw [if_neg c24] at H
             have c24b0 : (t151 == 0) = false := beq_eq_false_iff_ne.mpr c24
             have c24b1 : (t151 != 0) = true := bne_iff_ne.mpr c24
             obtain ⟨ji75, hji75⟩ : ∃ j_ : Int, (wrap64 ((wrap64 ((l0.length : Int) - 1)) - x6_2)) = j_ := ⟨_, rfl⟩
             replace H : (if 0 ≤ (ji75) then (if (ji75) < (l0.length : Int) then ((window_Put.f k3 x142000_2 x142001_2 (rd l0 (ji75)) 0 (rd l0 (ji75)) (⟨#[]⟩ : ByteArray)).bind fun bt161 => (if bt161.2.2 = 0 then (colloquylaw17_WindowOrder.l0 k3 l0 (wrap64 (x6_2 + 1)) x141000_2 x141001_2 bt161.1 bt161.2.1) else (colloquylaw17_WindowOrder.l0 k3 l0 (wrap64 (x6_2 + 1)) x141000_2 x141001_2 x142000_2 x142001_2))) else (none)) else (none)) = some r := by first | (rw [hji75] at H; exact H) | (simp only [hji75] at H ⊢; exact H)
             (try rw [hji75] at A23)
             have hji75w : (IntKind.i64.wrap ((wrap64 ((l0.length : Int) - 1)) - x6_2)) = ji75 := (i64_w _).trans hji75
             by_cases c76 : 0 ≤ (ji75)
             ·
              rw [if_pos c76] at H
              have c76b0 : decide (0 ≤ (ji75)) = true := decide_eq_true c76
              clear c76
              by_cases c77 : (ji75) < (l0.length : Int)
              ·
               rw [if_pos c77] at H
               have c77b0 : decide ((ji75) < (l0.length : Int)) = true := decide_eq_true c77
               clear c77
               replace H := Option.bind_eq_some_iff.mp H
               obtain ⟨⟨t161, t162, t165⟩, A780, H⟩ := H
               replace H : (if t165 = 0 then (colloquylaw17_WindowOrder.l0 k3 l0 (wrap64 (x6_2 + 1)) x141000_2 x141001_2 t161 t162) else (colloquylaw17_WindowOrder.l0 k3 l0 (wrap64 (x6_2 + 1)) x141000_2 x141001_2 x142000_2 x142001_2)) = some r := H
               have A78 := Aside0.mk A780
               clear A780
               by_cases c79 : t165 = 0
               ·
                rw [if_pos c79] at H
                have c79b0 : (t165 == 0) = true := beq_iff_eq.mpr c79
                have c79b1 : (t165 != 0) = false := bne_eq_false_iff_eq.mpr c79
                clear c79
                have H' := Aside0.mk H
                clear H
                obtain ⟨Ao80, co80, eo80⟩ := Kd.V_slice HO_141001.out
                subst eo80
                try go_wp2
                have n0_ := Aside0.mk (Z4n HO_141001.out)
                have n1_ := Aside0.mk (Z4n HO_142001.out)
                have n2_ := Aside0.mk (Z4e BK140.out)
                have n3_ := Aside0.mk (Z4e BK141.out)
                have n4_ := Aside0.mk (Z4j HB.out)
                clear HO_141001
                clear HO_142001
                clear BK140
                clear BK141
                clear HB
                have HO_141001 := n0_
                have HO_142001 := n1_
                have BK140 := n2_
                have BK141 := n3_
                have HB := n4_
                clear n0_ n1_ n2_ n3_ n4_
                have p145 : 0 ≤ (x6_2 : Int) := of_decide_eq_true (by first | (with_reducible assumption) | assumption)
                have q145 : x6_2 < (l0.length : Int) := of_decide_eq_true (by first | (with_reducible assumption) | assumption)
                obtain ⟨ad145, e145, hx145_0⟩ := Kd.at_int HR0.out x6_2 p145 q145
                have hw145_0 := hx145_0
                cases e145
                replace hx145_0 := (HB.out.cell (Z4g w _ hx145_0)).trans hx145_0
                replace p145 := eq_true p145
                replace q145 := eq_true q145
                have p146 : 0 ≤ (x6_2 : Int) := of_decide_eq_true (by first | (with_reducible assumption) | assumption)
                have q146 : x6_2 < (l0.length : Int) := of_decide_eq_true (by first | (with_reducible assumption) | assumption)
                obtain ⟨ad146, e146, hx146_0⟩ := Kd.at_int HR0.out x6_2 p146 q146
                have hw146_0 := hx146_0
                obtain rfl : ad145 = ad146 := (by injection e146)
                replace hx146_0 := (HB.out.cell (Z4g w _ hx146_0)).trans hx146_0
                replace p146 := eq_true p146
                replace q146 := eq_true q146
                refine start_ (n := 17) (S := fun w' => w'.cell? ⟨gb140, 0, none⟩ = some (.int .i64 x141000_2) ∧ w'.cell? ⟨gb140, 1, none⟩ = some (.slice Ao80 x141001_2.length co80) ∧ w'.cell? (ad145.add (x6_2).toNat) = some (.int .i64 (rd l0 x6_2)) ∧ w'.cell? (ad145.add (x6_2).toNat) = some (.int .i64 (rd l0 x6_2))) (ds := []) #[false, false, false, false, false, false, false, false, false, false, false, false, false, false, false, false, false] (by kernel_rfl) rfl rfl ⟨(Z4r BK140.out 0).trans rfl, (Z4r BK140.out 1).trans rfl, ((HB.out.cell (Z4g w _ hw145_0)).trans hw145_0), ((HB.out.cell (Z4g w _ hw146_0)).trans hw146_0)⟩ (fun hHeld => ?_); refine with_tabW colloquylaw17_WindowOrder.tab14 colloquylaw17_WindowOrder.bits14 (fun HT_ HW_ => ?_)
                generalize wr.drew = w81 at HO_141001 HO_142001 BK140 BK141 HB hx145_0 hx146_0 hHeld ⊢
                refine pure_ (i := 1) (N := some 47) (v := ?_) (a' := ?_) #[false, true, false, false, false, false, false, false, false, false, false, false, false, false, false, false, false] rfl rfl (any_of HT_.out (by kernel_rfl)) (fun _ _ _ h => h) (Or.inl ⟨by rfl, ?_⟩) ?_ ?_
                rotate_left
                ·
                 intro w'
                 go_simp
                 with_reducible rfl
                rotate_left
                ·
                 simp only [Act.put, Z4a, Z4b, Z4c, i64_w, i32_w]
                 rfl
                refine pure_ (i := 2) (N := some 48) (v := ?_) (a' := ?_) #[false, true, true, false, false, false, false, false, false, false, false, false, false, false, false, false, false] rfl rfl (any_of HT_.out (by kernel_rfl)) (fun _ _ _ h => h) (Or.inl ⟨by rfl, ?_⟩) ?_ ?_
                rotate_left
                ·
                 intro w'
                 go_simp
                 with_reducible rfl
                rotate_left
                ·
                 simp only [Act.put, Z4a, Z4b, Z4c, i64_w, i32_w]
                 rfl
                refine pure_ (i := 3) (N := some 49) (v := ?_) (a' := ?_) #[false, true, true, true, false, false, false, false, false, false, false, false, false, false, false, false, false] rfl rfl (any_of HT_.out (by kernel_rfl)) (fun _ _ _ h => h) (Or.inl ⟨by rfl, ?_⟩) ?_ ?_
                rotate_left
                ·
                 intro w'
                 go_simp
                 with_reducible rfl
                rotate_left
                ·
                 simp only [Act.put, Z4a, Z4b, Z4c, i64_w, i32_w]
                 rfl
                refine pure_ (i := 5) (N := some 51) (v := ?_) (a' := ?_) #[false, true, true, true, false, true, false, false, false, false, false, false, false, false, false, false, false] rfl rfl (any_of HT_.out (by kernel_rfl)) (fun _ _ _ h => h) (Or.inl ⟨by rfl, ?_⟩) ?_ ?_
                rotate_left
                ·
                 intro w'
                 go_simp
                 with_reducible rfl
                rotate_left
                ·
                 simp only [Act.put, Z4a, Z4b, Z4c, i64_w, i32_w]
                 rfl
                refine pure_ (i := 6) (N := some 52) (v := ?_) (a' := ?_) #[false, true, true, true, false, true, true, false, false, false, false, false, false, false, false, false, false] rfl rfl (any_of HT_.out (by kernel_rfl)) (fun _ _ _ h => h) (Or.inl ⟨by rfl, ?_⟩) ?_ ?_
                rotate_left
                ·
                 intro w'
                 go_simp
                 with_reducible rfl
                rotate_left
                ·
                 simp only [Act.put, Z4a, Z4b, Z4c, i64_w, i32_w]
                 rfl
                refine pure_ (i := 7) (N := some 53) (v := ?_) (a' := ?_) #[false, true, true, true, false, true, true, true, false, false, false, false, false, false, false, false, false] rfl rfl (any_of HT_.out (by kernel_rfl)) (fun _ _ _ h => h) (Or.inl ⟨by rfl, ?_⟩) ?_ ?_
                rotate_left
                ·
                 intro w'
                 go_simp
                 with_reducible rfl
                rotate_left
                ·
                 simp only [Act.put, Z4a, Z4b, Z4c, i64_w, i32_w]
                 rfl
                refine take_ (i := 0) (N := some 46) (v := ?_) (a' := ?_) #[true, true, true, true, false, true, true, true, false, false, false, false, false, false, false, false, false] rfl rfl (take_ofW HT_.out HW_.out (by kernel_rfl)) (fun _ _ _ h => h) (Or.inl ⟨by rfl, ?_⟩) hHeld ?_ ?_
                rotate_left
                ·
                 rintro w' ⟨s0, s1, s2, s3⟩
                 go_simp
                 with_reducible rfl
                rotate_left
                ·
                 simp only [Act.put, Z4a, Z4b, Z4c, i64_w, i32_w]
                 rfl
                refine take_ (i := 4) (N := some 50) (v := ?_) (a' := ?_) #[true, true, true, true, true, true, true, true, false, false, false, false, false, false, false, false, false] rfl rfl (take_ofW HT_.out HW_.out (by kernel_rfl)) (fun _ _ _ h => h) (Or.inl ⟨by rfl, ?_⟩) hHeld ?_ ?_
                rotate_left
                ·
                 rintro w' ⟨s0, s1, s2, s3⟩
                 go_simp
                 with_reducible rfl
                rotate_left
                ·
                 simp only [Act.put, Z4a, Z4b, Z4c, i64_w, i32_w]
                 rfl
                refine take_ (i := 8) (N := some 54) (v := ?_) (a' := ?_) #[true, true, true, true, true, true, true, true, true, false, false, false, false, false, false, false, false] rfl rfl (take_ofW HT_.out HW_.out (by kernel_rfl)) (fun _ _ _ h => h) (Or.inl ⟨by rfl, ?_⟩) hHeld ?_ ?_
                rotate_left
                ·
                 rintro w' ⟨s0, s1, s2, s3⟩
                 go_simp
                 with_reducible rfl
                rotate_left
                ·
                 simp only [Act.put, Z4a, Z4b, Z4c, i64_w, i32_w]
                 rfl
                refine pure_ (i := 9) (N := some 55) (v := ?_) (a' := ?_) #[true, true, true, true, true, true, true, true, true, true, false, false, false, false, false, false, false] rfl rfl (any_of HT_.out (by kernel_rfl)) (fun _ _ _ h => h) (Or.inl ⟨by rfl, ?_⟩) ?_ ?_
                rotate_left
                ·
                 intro w'
                 go_simp
                 with_reducible rfl
                rotate_left
                ·
                 simp only [Act.put, Z4a, Z4b, Z4c, i64_w, i32_w]
                 rfl
                refine join_ (σ := Value × Nat) 2 #[true, true, true, true, true, true, true, true, true, true, true, true, true, true, true, false, false] (fun s_ => [(56, .tuple #[.agg #[.int .i64 t147, s_.1], .int .i64 t151]), (8, .pointer (some ⟨s_.2, 0, none⟩)), (45, .tuple #[.agg #[.int .i64 t147, s_.1], .int .i64 t151]), (57, .agg #[.int .i64 t147, s_.1]), (58, .int .i64 t151)]) (fun s_ w' => (w'.cell? ⟨gb140, 0, none⟩ = some (.int .i64 x141000_2) ∧ w'.cell? ⟨gb140, 1, none⟩ = some (.slice Ao80 x141001_2.length co80) ∧ w'.cell? (ad145.add (x6_2).toNat) = some (.int .i64 (rd l0 x6_2)) ∧ w'.cell? (ad145.add (x6_2).toNat) = some (.int .i64 (rd l0 x6_2))) ∧ (Kd.V k42 42 w' w.heap.size (fun k_ => k_ ≠ gb140 ∧ k_ ≠ gb141 ∧ k_ ≠ s_.2) s_.1 t148) ∧ (Kd.V k42 42 w' w.heap.size (fun k_ => k_ ≠ gb140 ∧ k_ ≠ gb141 ∧ k_ ≠ s_.2) (.slice Ao80 x141001_2.length co80) x141001_2) ∧ (Kd.V k42 42 w' w.heap.size (fun k_ => k_ ≠ gb140 ∧ k_ ≠ gb141 ∧ k_ ≠ s_.2) u142001 x142001_2) ∧ (w'.heap[gb140]? = some (.cells #[.int .i64 x141000_2, .slice Ao80 x141001_2.length co80] 24 (0, 0))) ∧ (w'.heap[gb141]? = some (.cells #[.int .i64 x142000_2, u142001] 24 (0, 0))) ∧ (w'.heap[s_.2]? = some (.cells #[.int .i64 0, .slice none 0 0] 24 (0, 0))) ∧ (w.heap.size ≤ s_.2) ∧ (w.heap.size ≤ s_.2) ∧ (gb140 ≠ s_.2) ∧ (s_.2 ≠ gb140) ∧ (gb141 ≠ s_.2) ∧ (s_.2 ≠ gb141) ∧ (Below w.heap.size w w')) ?_ ?_
                rotate_left
                ·
                 intro hCont
                 refine two_ (i := 10) (j := 14) (Ni := some 56) (Nj := some 8) #[true, true, true, true, true, true, true, true, true, true, true, false, false, false, false, false, false] #[true, true, true, true, true, true, true, true, true, true, false, false, false, false, true, false, false] rfl rfl rfl rfl (two_of HT_.out (by kernel_rfl)) (by decide) (by decide) (fun K hK => ?_) (fun K hK => ?_)
                 ·
                  skip
                  refine goes_ Try.func12 (by kernel_rfl) rfl #[.agg #[.int .i64 x141000_2, .slice Ao80 x141001_2.length co80], .int .i64 (rd l0 x6_2), .agg #[.int .i64 0, .int .i64 (rd l0 x6_2), .string (⟨#[]⟩ : ByteArray)]] (by rfl) rfl rfl (by (try simp only [List.map_toArray, List.map_cons, List.map_nil]); first | done | rfl | (simp only [List.length_drop, List.length_take]; rfl)) ?_
                  with_reducible refine (window_Put.calls k3 x141000_2 _ _ x141001_2 (rd l0 x6_2) 0 (rd l0 x6_2) (⟨#[]⟩ : ByteArray) t147 t148 t151 _ ?side1 ?side2 A23.out).mono ?_
                  (case side1 => repeat (first | exact (Kd.V_reads' HO_141001.out).2.2 | (with_reducible refine Kd.C_alloc ?_ _) | (with_reducible refine Kd.C_drewN ?_ _) | (with_reducible refine Kd.C_drew ?_)))
                  (case side2 => exact (Kd.V_reads' HO_141001.out).2.1)
                  rintro e w82 ⟨v149, rfl, ho0, hb⟩
                  refine ⟨_, rfl, ?_⟩
                  have n0_ := Aside0.mk (Z4q (by (with_reducible repeat (first | apply Z4o | apply Z4m | apply Z4n)); exact HO_141001.out) hb)
                  have n1_ := Aside0.mk (Z4q (by (with_reducible repeat (first | apply Z4o | apply Z4m | apply Z4n)); exact HO_142001.out) hb)
                  have n2_ := Aside0.mk (Kd.V_lower (Z4p (ok' := fun k_ => k_ ≠ gb140 ∧ k_ ≠ gb141) ho0 (fun k_ hk_ => ⟨(Kd.freshB (g := gb140) (o := .cells #[.int .i64 x141000_2, .slice Ao80 x141001_2.length co80] 24 (0, 0)) (by (with_reducible repeat (first | refine Z4d ?_ _ | refine Z4e ?_ | refine Z4f ?_ _)); exact BK140.out) k_ hk_), (Kd.freshB (g := gb141) (o := .cells #[.int .i64 x142000_2, u142001] 24 (0, 0)) (by (with_reducible repeat (first | refine Z4d ?_ _ | refine Z4e ?_ | refine Z4f ?_ _)); exact BK141.out) k_ hk_)⟩)) (below_size (by repeat (first | (with_reducible first | exact HB.out | apply Z4k | apply Z4i | apply Z4j | refine Z4l ?_ GE140.out | refine Z4l ?_ GE141.out) | exact HB.out))))
                  have n3_ := Aside0.mk (blk_below (g := gb140) (o := .cells #[.int .i64 x141000_2, .slice Ao80 x141001_2.length co80] 24 (0, 0)) (by (with_reducible repeat (first | refine Z4d ?_ _ | refine Z4e ?_ | refine Z4f ?_ _)); exact BK140.out) hb)
                  have n4_ := Aside0.mk (blk_below (g := gb141) (o := .cells #[.int .i64 x142000_2, u142001] 24 (0, 0)) (by (with_reducible repeat (first | refine Z4d ?_ _ | refine Z4e ?_ | refine Z4f ?_ _)); exact BK141.out) hb)
                  have n5_ := Aside0.mk (below_step (by repeat (first | (with_reducible first | exact HB.out | apply Z4k | apply Z4i | apply Z4j | refine Z4l ?_ GE140.out | refine Z4l ?_ GE141.out) | exact HB.out)) hb)
                  clear HO_141001
                  clear HO_142001
                  clear BK140
                  clear BK141
                  clear HB
                  have HO_141001 := n0_
                  have HO_142001 := n1_
                  have HO150 := n2_
                  have BK140 := n3_
                  have BK141 := n4_
                  have HB := n5_
                  clear n0_ n1_ n2_ n3_ n4_ n5_
                  (try clear hb)
                  (try clear hb2)
                  (try clear hk)
                  (try clear hi)
                  (try clear ho0)
                  refine hK.out _ _ ⟨(Z4r BK140.out 0).trans rfl, (Z4r BK140.out 1).trans rfl, ((HB.out.cell (Z4g w _ hw145_0)).trans hw145_0), ((HB.out.cell (Z4g w _ hw146_0)).trans hw146_0)⟩ (fun hHeld => ?_)
                  clear hK K
                  refine norm_ (a' := ?_) ?_ ?_
                  rotate_left
                  ·
                   show Act.put _ (some 56) _ = _
                   simp only [Act.put, Z4a, Z4b, Z4c, i64_w, i32_w]
                   rfl
                  refine pure_ (i := 11) (N := some 45) (v := ?_) (a' := ?_) #[true, true, true, true, true, true, true, true, true, true, true, true, false, false, false, false, false] rfl rfl (any_of HT_.out (by kernel_rfl)) (fun _ _ _ h => h) (Or.inl ⟨by rfl, ?_⟩) ?_ ?_
                  rotate_left
                  ·
                   intro w'
                   go_simp
                   with_reducible rfl
                  rotate_left
                  ·
                   simp only [Act.put, Z4a, Z4b, Z4c, i64_w, i32_w]
                   rfl
                  refine pure_ (i := 12) (N := some 57) (v := ?_) (a' := ?_) #[true, true, true, true, true, true, true, true, true, true, true, true, true, false, false, false, false] rfl rfl (any_of HT_.out (by kernel_rfl)) (fun _ _ _ h => h) (Or.inl ⟨by rfl, ?_⟩) ?_ ?_
                  rotate_left
                  ·
                   intro w'
                   go_simp
                   with_reducible rfl
                  rotate_left
                  ·
                   simp only [Act.put, Z4a, Z4b, Z4c, i64_w, i32_w]
                   rfl
                  refine pure_ (i := 13) (N := some 58) (v := ?_) (a' := ?_) #[true, true, true, true, true, true, true, true, true, true, true, true, true, true, false, false, false] rfl rfl (any_of HT_.out (by kernel_rfl)) (fun _ _ _ h => h) (Or.inl ⟨by rfl, ?_⟩) ?_ ?_
                  rotate_left
                  ·
                   intro w'
                   go_simp
                   with_reducible rfl
                  rotate_left
                  ·
                   simp only [Act.put, Z4a, Z4b, Z4c, i64_w, i32_w]
                   rfl
                  refine one_ (i := 14) (N := some 8) #[true, true, true, true, true, true, true, true, true, true, true, true, true, true, true, false, false] rfl rfl (one_of HT_.out (by kernel_rfl)) (by decide) (fun K hK => ?_)
                  refine box_step ?hg (N := 8) ?hd (cs := #[.int .i64 0, .slice none 0 0]) (t := 24) ?hr ?_; (case hd => rfl); (case hg => rfl); (case hr => first | (go_simp; done) | (go_simp; rfl))
                  intro gb152 hg w83 hbox hb
                  have n0_ := Aside0.mk (Z4q (Kd.V_elderB (by (with_reducible repeat (first | apply Z4o | apply Z4m | apply Z4n)); exact HO_141001.out) gb152 (Nat.le_of_eq hg.symm)) hb)
                  have n1_ := Aside0.mk (Z4q (Kd.V_elderB (by (with_reducible repeat (first | apply Z4o | apply Z4m | apply Z4n)); exact HO_142001.out) gb152 (Nat.le_of_eq hg.symm)) hb)
                  have n2_ := Aside0.mk (Z4q (Kd.V_elderB (by (with_reducible repeat (first | apply Z4o | apply Z4m | apply Z4n)); exact HO150.out) gb152 (Nat.le_of_eq hg.symm)) hb)
                  have n3_ := Aside0.mk (blk_below (g := gb140) (o := .cells #[.int .i64 x141000_2, .slice Ao80 x141001_2.length co80] 24 (0, 0)) (by (with_reducible repeat (first | refine Z4d ?_ _ | refine Z4e ?_ | refine Z4f ?_ _)); exact BK140.out) hb)
                  have n4_ := Aside0.mk (blk_below (g := gb141) (o := .cells #[.int .i64 x142000_2, u142001] 24 (0, 0)) (by (with_reducible repeat (first | refine Z4d ?_ _ | refine Z4e ?_ | refine Z4f ?_ _)); exact BK141.out) hb)
                  have n5_ := Aside0.mk (below_step (by repeat (first | (with_reducible first | exact HB.out | apply Z4k | apply Z4i | apply Z4j | refine Z4l ?_ GE140.out | refine Z4l ?_ GE141.out) | exact HB.out)) hb)
                  have n6_ := Aside0.mk (hbox)
                  have n7_ := Aside0.mk ((by rw [hg]; exact (below_size (by repeat (first | (with_reducible first | exact HB.out | apply Z4k | apply Z4i | apply Z4j | refine Z4l ?_ GE140.out | refine Z4l ?_ GE141.out) | exact HB.out))) : w.heap.size ≤ gb152))
                  have n8_ := Aside0.mk ((by rw [hg]; exact (below_size (by repeat (first | (with_reducible first | exact HB.out | apply Z4k | apply Z4i | apply Z4j | refine Z4l ?_ GE140.out | refine Z4l ?_ GE141.out) | exact HB.out))) : w.heap.size ≤ gb152))
                  have n9_ := Aside0.mk ((by rw [hg]; exact Nat.ne_of_lt (blk_lt (g := gb140) (o := .cells #[.int .i64 x141000_2, .slice Ao80 x141001_2.length co80] 24 (0, 0)) (by (with_reducible repeat (first | refine Z4d ?_ _ | refine Z4e ?_ | refine Z4f ?_ _)); exact BK140.out)) : gb140 ≠ gb152))
                  have n10_ := Aside0.mk ((by rw [hg]; exact Nat.ne_of_gt (blk_lt (g := gb140) (o := .cells #[.int .i64 x141000_2, .slice Ao80 x141001_2.length co80] 24 (0, 0)) (by (with_reducible repeat (first | refine Z4d ?_ _ | refine Z4e ?_ | refine Z4f ?_ _)); exact BK140.out)) : gb152 ≠ gb140))
                  have n11_ := Aside0.mk ((by rw [hg]; exact Nat.ne_of_lt (blk_lt (g := gb141) (o := .cells #[.int .i64 x142000_2, u142001] 24 (0, 0)) (by (with_reducible repeat (first | refine Z4d ?_ _ | refine Z4e ?_ | refine Z4f ?_ _)); exact BK141.out)) : gb141 ≠ gb152))
                  have n12_ := Aside0.mk ((by rw [hg]; exact Nat.ne_of_gt (blk_lt (g := gb141) (o := .cells #[.int .i64 x142000_2, u142001] 24 (0, 0)) (by (with_reducible repeat (first | refine Z4d ?_ _ | refine Z4e ?_ | refine Z4f ?_ _)); exact BK141.out)) : gb152 ≠ gb141))
                  clear HO_141001
                  clear HO_142001
                  clear HO150
                  clear BK140
                  clear BK141
                  clear HB
                  have HO_141001 := n0_
                  have HO_142001 := n1_
                  have HO150 := n2_
                  have BK140 := n3_
                  have BK141 := n4_
                  have HB := n5_
                  have BK152 := n6_
                  have GW152 := n7_
                  have GE152 := n8_
                  have NB140_152 := n9_
                  have NB152_140 := n10_
                  have NB141_152 := n11_
                  have NB152_141 := n12_
                  clear n0_ n1_ n2_ n3_ n4_ n5_ n6_ n7_ n8_ n9_ n10_ n11_ n12_
                  clear hb hbox hg
                  refine hK.out _ _ ⟨(Z4r BK140.out 0).trans rfl, (Z4r BK140.out 1).trans rfl, ((HB.out.cell (Z4g w _ hw145_0)).trans hw145_0), ((HB.out.cell (Z4g w _ hw146_0)).trans hw146_0)⟩ (fun hHeld => ?_)
                  clear hK K
                  refine norm_ (a' := ?_) ?_ ?_
                  rotate_left
                  ·
                   show Act.put _ (some 8) _ = _
                   simp only [Act.put, Z4a, Z4b, Z4c, i64_w, i32_w]
                   rfl
                  exact norm_ (by simp only [putAll, Act.put, List.setIfInBounds_toArray, List.set_cons_zero, List.set_cons_succ]) (hCont (v149, gb152) _ ⟨hHeld, (by (with_reducible repeat (first | apply Z4o | apply Z4m | apply Z4n)); exact Z4p HO150.out (fun _ hk => ⟨hk.1.1, ⟨hk.1.2, hk.2⟩⟩)), (by (with_reducible repeat (first | apply Z4o | apply Z4m | apply Z4n)); exact Z4p HO_141001.out (fun _ hk => ⟨hk.1.1, ⟨hk.1.2, hk.2⟩⟩)), (by (with_reducible repeat (first | apply Z4o | apply Z4m | apply Z4n)); exact Z4p HO_142001.out (fun _ hk => ⟨hk.1.1, ⟨hk.1.2, hk.2⟩⟩)), (by (with_reducible repeat (first | refine Z4d ?_ _ | refine Z4e ?_ | refine Z4f ?_ _)); exact BK140.out), (by (with_reducible repeat (first | refine Z4d ?_ _ | refine Z4e ?_ | refine Z4f ?_ _)); exact BK141.out), (by (with_reducible repeat (first | refine Z4d ?_ _ | refine Z4e ?_ | refine Z4f ?_ _)); exact BK152.out), GW152.out, GE152.out, NB140_152.out, NB152_140.out, NB141_152.out, NB152_141.out, (by repeat (first | (with_reducible first | exact HB.out | apply Z4k | apply Z4i | apply Z4j | refine Z4l ?_ GE140.out | refine Z4l ?_ GE141.out | refine Z4l ?_ GE152.out) | exact HB.out))⟩)
                 ·
                  skip
                  refine box_step ?hg (N := 8) ?hd (cs := #[.int .i64 0, .slice none 0 0]) (t := 24) ?hr ?_; (case hd => rfl); (case hg => rfl); (case hr => first | (go_simp; done) | (go_simp; rfl))
                  intro gb152 hg w82 hbox hb
                  have n0_ := Aside0.mk (Z4q (Kd.V_elderB (by (with_reducible repeat (first | apply Z4o | apply Z4m | apply Z4n)); exact HO_141001.out) gb152 (Nat.le_of_eq hg.symm)) hb)
                  have n1_ := Aside0.mk (Z4q (Kd.V_elderB (by (with_reducible repeat (first | apply Z4o | apply Z4m | apply Z4n)); exact HO_142001.out) gb152 (Nat.le_of_eq hg.symm)) hb)
                  have n2_ := Aside0.mk (blk_below (g := gb140) (o := .cells #[.int .i64 x141000_2, .slice Ao80 x141001_2.length co80] 24 (0, 0)) (by (with_reducible repeat (first | refine Z4d ?_ _ | refine Z4e ?_ | refine Z4f ?_ _)); exact BK140.out) hb)
                  have n3_ := Aside0.mk (blk_below (g := gb141) (o := .cells #[.int .i64 x142000_2, u142001] 24 (0, 0)) (by (with_reducible repeat (first | refine Z4d ?_ _ | refine Z4e ?_ | refine Z4f ?_ _)); exact BK141.out) hb)
                  have n4_ := Aside0.mk (below_step (by repeat (first | (with_reducible first | exact HB.out | apply Z4k | apply Z4i | apply Z4j | refine Z4l ?_ GE140.out | refine Z4l ?_ GE141.out) | exact HB.out)) hb)
                  have n5_ := Aside0.mk (hbox)
                  have n6_ := Aside0.mk ((by rw [hg]; exact (below_size (by repeat (first | (with_reducible first | exact HB.out | apply Z4k | apply Z4i | apply Z4j | refine Z4l ?_ GE140.out | refine Z4l ?_ GE141.out) | exact HB.out))) : w.heap.size ≤ gb152))
                  have n7_ := Aside0.mk ((by rw [hg]; exact (below_size (by repeat (first | (with_reducible first | exact HB.out | apply Z4k | apply Z4i | apply Z4j | refine Z4l ?_ GE140.out | refine Z4l ?_ GE141.out) | exact HB.out))) : w.heap.size ≤ gb152))
                  have n8_ := Aside0.mk ((by rw [hg]; exact Nat.ne_of_lt (blk_lt (g := gb140) (o := .cells #[.int .i64 x141000_2, .slice Ao80 x141001_2.length co80] 24 (0, 0)) (by (with_reducible repeat (first | refine Z4d ?_ _ | refine Z4e ?_ | refine Z4f ?_ _)); exact BK140.out)) : gb140 ≠ gb152))
                  have n9_ := Aside0.mk ((by rw [hg]; exact Nat.ne_of_gt (blk_lt (g := gb140) (o := .cells #[.int .i64 x141000_2, .slice Ao80 x141001_2.length co80] 24 (0, 0)) (by (with_reducible repeat (first | refine Z4d ?_ _ | refine Z4e ?_ | refine Z4f ?_ _)); exact BK140.out)) : gb152 ≠ gb140))
                  have n10_ := Aside0.mk ((by rw [hg]; exact Nat.ne_of_lt (blk_lt (g := gb141) (o := .cells #[.int .i64 x142000_2, u142001] 24 (0, 0)) (by (with_reducible repeat (first | refine Z4d ?_ _ | refine Z4e ?_ | refine Z4f ?_ _)); exact BK141.out)) : gb141 ≠ gb152))
                  have n11_ := Aside0.mk ((by rw [hg]; exact Nat.ne_of_gt (blk_lt (g := gb141) (o := .cells #[.int .i64 x142000_2, u142001] 24 (0, 0)) (by (with_reducible repeat (first | refine Z4d ?_ _ | refine Z4e ?_ | refine Z4f ?_ _)); exact BK141.out)) : gb152 ≠ gb141))
                  clear HO_141001
                  clear HO_142001
                  clear BK140
                  clear BK141
                  clear HB
                  have HO_141001 := n0_
                  have HO_142001 := n1_
                  have BK140 := n2_
                  have BK141 := n3_
                  have HB := n4_
                  have BK152 := n5_
                  have GW152 := n6_
                  have GE152 := n7_
                  have NB140_152 := n8_
                  have NB152_140 := n9_
                  have NB141_152 := n10_
                  have NB152_141 := n11_
                  clear n0_ n1_ n2_ n3_ n4_ n5_ n6_ n7_ n8_ n9_ n10_ n11_
                  clear hb hbox hg
                  refine hK.out _ _ ⟨(Z4r BK140.out 0).trans rfl, (Z4r BK140.out 1).trans rfl, ((HB.out.cell (Z4g w _ hw145_0)).trans hw145_0), ((HB.out.cell (Z4g w _ hw146_0)).trans hw146_0)⟩ (fun hHeld => ?_)
                  clear hK K
                  refine norm_ (a' := ?_) ?_ ?_
                  rotate_left
                  ·
                   show Act.put _ (some 8) _ = _
                   simp only [Act.put, Z4a, Z4b, Z4c, i64_w, i32_w]
                   rfl
                  refine one_ (i := 10) (N := some 56) #[true, true, true, true, true, true, true, true, true, true, true, false, false, false, true, false, false] rfl rfl (one_of HT_.out (by kernel_rfl)) (by decide) (fun K hK => ?_)
                  refine goes_ Try.func12 (by kernel_rfl) rfl #[.agg #[.int .i64 x141000_2, .slice Ao80 x141001_2.length co80], .int .i64 (rd l0 x6_2), .agg #[.int .i64 0, .int .i64 (rd l0 x6_2), .string (⟨#[]⟩ : ByteArray)]] (by rfl) rfl rfl (by (try simp only [List.map_toArray, List.map_cons, List.map_nil]); first | done | rfl | (simp only [List.length_drop, List.length_take]; rfl)) ?_
                  with_reducible refine (window_Put.calls k3 x141000_2 _ _ x141001_2 (rd l0 x6_2) 0 (rd l0 x6_2) (⟨#[]⟩ : ByteArray) t147 t148 t151 _ ?side1 ?side2 A23.out).mono ?_
                  (case side1 => repeat (first | exact (Kd.V_reads' HO_141001.out).2.2 | (with_reducible refine Kd.C_alloc ?_ _) | (with_reducible refine Kd.C_drewN ?_ _) | (with_reducible refine Kd.C_drew ?_)))
                  (case side2 => exact (Kd.V_reads' HO_141001.out).2.1)
                  rintro e w83 ⟨v149, rfl, ho0, hb⟩
                  refine ⟨_, rfl, ?_⟩
                  have n0_ := Aside0.mk (Z4q (by (with_reducible repeat (first | apply Z4o | apply Z4m | apply Z4n)); exact HO_141001.out) hb)
                  have n1_ := Aside0.mk (Z4q (by (with_reducible repeat (first | apply Z4o | apply Z4m | apply Z4n)); exact HO_142001.out) hb)
                  have n2_ := Aside0.mk (Kd.V_lower (Z4p (ok' := fun k_ => k_ ≠ gb140 ∧ k_ ≠ gb141 ∧ k_ ≠ gb152) ho0 (fun k_ hk_ => ⟨(Kd.freshB (g := gb140) (o := .cells #[.int .i64 x141000_2, .slice Ao80 x141001_2.length co80] 24 (0, 0)) (by (with_reducible repeat (first | refine Z4d ?_ _ | refine Z4e ?_ | refine Z4f ?_ _)); exact BK140.out) k_ hk_), (Kd.freshB (g := gb141) (o := .cells #[.int .i64 x142000_2, u142001] 24 (0, 0)) (by (with_reducible repeat (first | refine Z4d ?_ _ | refine Z4e ?_ | refine Z4f ?_ _)); exact BK141.out) k_ hk_), (Kd.freshB (g := gb152) (o := .cells #[.int .i64 0, .slice none 0 0] 24 (0, 0)) (by (with_reducible repeat (first | refine Z4d ?_ _ | refine Z4e ?_ | refine Z4f ?_ _)); exact BK152.out) k_ hk_)⟩)) (below_size (by repeat (first | (with_reducible first | exact HB.out | apply Z4k | apply Z4i | apply Z4j | refine Z4l ?_ GE140.out | refine Z4l ?_ GE141.out | refine Z4l ?_ GE152.out) | exact HB.out))))
                  have n3_ := Aside0.mk (blk_below (g := gb140) (o := .cells #[.int .i64 x141000_2, .slice Ao80 x141001_2.length co80] 24 (0, 0)) (by (with_reducible repeat (first | refine Z4d ?_ _ | refine Z4e ?_ | refine Z4f ?_ _)); exact BK140.out) hb)
                  have n4_ := Aside0.mk (blk_below (g := gb141) (o := .cells #[.int .i64 x142000_2, u142001] 24 (0, 0)) (by (with_reducible repeat (first | refine Z4d ?_ _ | refine Z4e ?_ | refine Z4f ?_ _)); exact BK141.out) hb)
                  have n5_ := Aside0.mk (blk_below (g := gb152) (o := .cells #[.int .i64 0, .slice none 0 0] 24 (0, 0)) (by (with_reducible repeat (first | refine Z4d ?_ _ | refine Z4e ?_ | refine Z4f ?_ _)); exact BK152.out) hb)
                  have n6_ := Aside0.mk (below_step (by repeat (first | (with_reducible first | exact HB.out | apply Z4k | apply Z4i | apply Z4j | refine Z4l ?_ GE140.out | refine Z4l ?_ GE141.out | refine Z4l ?_ GE152.out) | exact HB.out)) hb)
                  clear HO_141001
                  clear HO_142001
                  clear BK140
                  clear BK141
                  clear BK152
                  clear HB
                  have HO_141001 := n0_
                  have HO_142001 := n1_
                  have HO150 := n2_
                  have BK140 := n3_
                  have BK141 := n4_
                  have BK152 := n5_
                  have HB := n6_
                  clear n0_ n1_ n2_ n3_ n4_ n5_ n6_
                  (try clear hb)
                  (try clear hb2)
                  (try clear hk)
                  (try clear hi)
                  (try clear ho0)
                  refine hK.out _ _ ⟨(Z4r BK140.out 0).trans rfl, (Z4r BK140.out 1).trans rfl, ((HB.out.cell (Z4g w _ hw145_0)).trans hw145_0), ((HB.out.cell (Z4g w _ hw146_0)).trans hw146_0)⟩ (fun hHeld => ?_)
                  clear hK K
                  refine norm_ (a' := ?_) ?_ ?_
                  rotate_left
                  ·
                   show Act.put _ (some 56) _ = _
                   simp only [Act.put, Z4a, Z4b, Z4c, i64_w, i32_w]
                   rfl
                  refine pure_ (i := 11) (N := some 45) (v := ?_) (a' := ?_) #[true, true, true, true, true, true, true, true, true, true, true, true, false, false, true, false, false] rfl rfl (any_of HT_.out (by kernel_rfl)) (fun _ _ _ h => h) (Or.inl ⟨by rfl, ?_⟩) ?_ ?_
                  rotate_left
                  ·
                   intro w'
                   go_simp
                   with_reducible rfl
                  rotate_left
                  ·
                   simp only [Act.put, Z4a, Z4b, Z4c, i64_w, i32_w]
                   rfl
                  refine pure_ (i := 12) (N := some 57) (v := ?_) (a' := ?_) #[true, true, true, true, true, true, true, true, true, true, true, true, true, false, true, false, false] rfl rfl (any_of HT_.out (by kernel_rfl)) (fun _ _ _ h => h) (Or.inl ⟨by rfl, ?_⟩) ?_ ?_
                  rotate_left
                  ·
                   intro w'
                   go_simp
                   with_reducible rfl
                  rotate_left
                  ·
                   simp only [Act.put, Z4a, Z4b, Z4c, i64_w, i32_w]
                   rfl
                  refine pure_ (i := 13) (N := some 58) (v := ?_) (a' := ?_) #[true, true, true, true, true, true, true, true, true, true, true, true, true, true, true, false, false] rfl rfl (any_of HT_.out (by kernel_rfl)) (fun _ _ _ h => h) (Or.inl ⟨by rfl, ?_⟩) ?_ ?_
                  rotate_left
                  ·
                   intro w'
                   go_simp
                   with_reducible rfl
                  rotate_left
                  ·
                   simp only [Act.put, Z4a, Z4b, Z4c, i64_w, i32_w]
                   rfl
                  exact norm_ (by simp only [putAll, Act.put, List.setIfInBounds_toArray, List.set_cons_zero, List.set_cons_succ]) (hCont (v149, gb152) _ ⟨hHeld, (by (with_reducible repeat (first | apply Z4o | apply Z4m | apply Z4n)); exact HO150.out), (by (with_reducible repeat (first | apply Z4o | apply Z4m | apply Z4n)); exact Z4p HO_141001.out (fun _ hk => ⟨hk.1.1, ⟨hk.1.2, hk.2⟩⟩)), (by (with_reducible repeat (first | apply Z4o | apply Z4m | apply Z4n)); exact Z4p HO_142001.out (fun _ hk => ⟨hk.1.1, ⟨hk.1.2, hk.2⟩⟩)), (by (with_reducible repeat (first | refine Z4d ?_ _ | refine Z4e ?_ | refine Z4f ?_ _)); exact BK140.out), (by (with_reducible repeat (first | refine Z4d ?_ _ | refine Z4e ?_ | refine Z4f ?_ _)); exact BK141.out), (by (with_reducible repeat (first | refine Z4d ?_ _ | refine Z4e ?_ | refine Z4f ?_ _)); exact BK152.out), GW152.out, GE152.out, NB140_152.out, NB152_140.out, NB141_152.out, NB152_141.out, (by repeat (first | (with_reducible first | exact HB.out | apply Z4k | apply Z4i | apply Z4j | refine Z4l ?_ GE140.out | refine Z4l ?_ GE141.out | refine Z4l ?_ GE152.out) | exact HB.out))⟩)
                rintro ⟨v149, gb152⟩ w84 ⟨hS_, h0_, h1_, h2_, h3_, h4_, h5_, h6_, h7_, h8_, h9_, h10_, h11_, h12_⟩
                have n0_ : Aside0 (Kd.V k42 42 w84 w.heap.size (fun k_ => k_ ≠ gb140 ∧ k_ ≠ gb141 ∧ k_ ≠ gb152) v149 t148) := ⟨h0_⟩
                have n1_ : Aside0 (Kd.V k42 42 w84 w.heap.size (fun k_ => k_ ≠ gb140 ∧ k_ ≠ gb141 ∧ k_ ≠ gb152) (.slice Ao80 x141001_2.length co80) x141001_2) := ⟨h1_⟩
                have n2_ : Aside0 (Kd.V k42 42 w84 w.heap.size (fun k_ => k_ ≠ gb140 ∧ k_ ≠ gb141 ∧ k_ ≠ gb152) u142001 x142001_2) := ⟨h2_⟩
                have n3_ : Aside0 (w84.heap[gb140]? = some (.cells #[.int .i64 x141000_2, .slice Ao80 x141001_2.length co80] 24 (0, 0))) := ⟨h3_⟩
                have n4_ : Aside0 (w84.heap[gb141]? = some (.cells #[.int .i64 x142000_2, u142001] 24 (0, 0))) := ⟨h4_⟩
                have n5_ : Aside0 (w84.heap[gb152]? = some (.cells #[.int .i64 0, .slice none 0 0] 24 (0, 0))) := ⟨h5_⟩
                have n6_ : Aside0 (w.heap.size ≤ gb152) := ⟨h6_⟩
                have n7_ : Aside0 (w.heap.size ≤ gb152) := ⟨h7_⟩
                have n8_ : Aside0 (gb140 ≠ gb152) := ⟨h8_⟩
                have n9_ : Aside0 (gb152 ≠ gb140) := ⟨h9_⟩
                have n10_ : Aside0 (gb141 ≠ gb152) := ⟨h10_⟩
                have n11_ : Aside0 (gb152 ≠ gb141) := ⟨h11_⟩
                have n12_ : Aside0 (Below w.heap.size w w84) := ⟨h12_⟩
                clear HO_141001
                clear HO_142001
                clear BK140
                clear BK141
                clear HB
                clear h0_ h1_ h2_ h3_ h4_ h5_ h6_ h7_ h8_ h9_ h10_ h11_ h12_
                have HO150 := n0_
                have HO_141001 := n1_
                have HO_142001 := n2_
                have BK140 := n3_
                have BK141 := n4_
                have BK152 := n5_
                have GW152 := n6_
                have GE152 := n7_
                have NB140_152 := n8_
                have NB152_140 := n9_
                have NB141_152 := n10_
                have NB152_141 := n11_
                have HB := n12_
                clear n0_ n1_ n2_ n3_ n4_ n5_ n6_ n7_ n8_ n9_ n10_ n11_ n12_
                have hHeld : w84.cell? ⟨gb140, 0, none⟩ = some (.int .i64 x141000_2) ∧ w84.cell? ⟨gb140, 1, none⟩ = some (.slice Ao80 x141001_2.length co80) ∧ w84.cell? (ad145.add (x6_2).toNat) = some (.int .i64 (rd l0 x6_2)) ∧ w84.cell? (ad145.add (x6_2).toNat) = some (.int .i64 (rd l0 x6_2)) := hS_
                obtain ⟨Ao86, co86, eo86⟩ := Kd.V_slice HO150.out
                (first | subst eo86 | (injection eo86 with f1_ f2_ f3_; have f4_ := f1_.symm; have f5_ := f3_.symm; clear f1_ f2_ f3_; subst f4_; subst f5_))
                refine norm_ (a' := ?_) ?_ ?_
                rotate_left
                ·
                 simp only [putAll, Act.put, List.setIfInBounds_toArray, List.set_cons_zero, List.set_cons_succ]
                 rfl
                refine one_ (i := 15) (N := none) #[true, true, true, true, true, true, true, true, true, true, true, true, true, true, true, true, false] rfl rfl (one_of HT_.out (by kernel_rfl)) (by decide) (fun K hK => ?_)
                have hs85 : w84.cell? ⟨gb152, 0, none⟩ = some (.int .i64 0) := (Z4r BK152.out 0).trans rfl
                have hfs85 := blk_frozen BK152.out 0
                have hns85_0 := NB140_152.out
                have hns85_1 := NB141_152.out
                have hms85_0 := NB152_140.out
                have hms85_1 := NB152_141.out
                have hs87 : w84.cell? ⟨gb152, 1, none⟩ = some (.slice none 0 0) := (Z4r BK152.out 1).trans rfl
                have hfs87 := blk_frozen BK152.out 1
                have hns87_0 := NB140_152.out
                have hns87_1 := NB141_152.out
                have hms87_0 := NB152_140.out
                have hms87_1 := NB152_141.out
                refine skip_ (w1 := ?_) (by rfl) rfl ?_ ?_
                rotate_left
                ·
                 go_simp
                 rfl
                refine hK.out _ _ ⟨((cell_far (p := ⟨gb152, _, none⟩) NB140_152.out _).trans (((cell_far (p := ⟨gb152, _, none⟩) NB140_152.out _).trans (hHeld.1)))), ((cell_far (p := ⟨gb152, _, none⟩) NB140_152.out _).trans (((cell_far (p := ⟨gb152, _, none⟩) NB140_152.out _).trans (hHeld.2.1)))), ((cell_far (p := ⟨gb152, _, none⟩) (by first | exact Nat.ne_of_lt (Z4h (by have := Z4g _ _ hw145_0; first | rwa [add_block] at this | exact this) GW152.out) | (rw [add_block]; exact Nat.ne_of_lt (Z4h (by have := Z4g _ _ hw145_0; first | rwa [add_block] at this | exact this) GW152.out)) | (show (Addr.add _ _).block ≠ _; rw [add_block]; exact Nat.ne_of_lt (Z4h (by have := Z4g _ _ hw145_0; first | rwa [add_block] at this | exact this) GW152.out)) | (dsimp only; exact Nat.ne_of_lt (Z4h (by have := Z4g _ _ hw145_0; first | rwa [add_block] at this | exact this) GW152.out))) _).trans (((cell_far (p := ⟨gb152, _, none⟩) (by first | exact Nat.ne_of_lt (Z4h (by have := Z4g _ _ hw145_0; first | rwa [add_block] at this | exact this) GW152.out) | (rw [add_block]; exact Nat.ne_of_lt (Z4h (by have := Z4g _ _ hw145_0; first | rwa [add_block] at this | exact this) GW152.out)) | (show (Addr.add _ _).block ≠ _; rw [add_block]; exact Nat.ne_of_lt (Z4h (by have := Z4g _ _ hw145_0; first | rwa [add_block] at this | exact this) GW152.out)) | (dsimp only; exact Nat.ne_of_lt (Z4h (by have := Z4g _ _ hw145_0; first | rwa [add_block] at this | exact this) GW152.out))) _).trans (hHeld.2.2.1)))), ((cell_far (p := ⟨gb152, _, none⟩) (by first | exact Nat.ne_of_lt (Z4h (by have := Z4g _ _ hw146_0; first | rwa [add_block] at this | exact this) GW152.out) | (rw [add_block]; exact Nat.ne_of_lt (Z4h (by have := Z4g _ _ hw146_0; first | rwa [add_block] at this | exact this) GW152.out)) | (show (Addr.add _ _).block ≠ _; rw [add_block]; exact Nat.ne_of_lt (Z4h (by have := Z4g _ _ hw146_0; first | rwa [add_block] at this | exact this) GW152.out)) | (dsimp only; exact Nat.ne_of_lt (Z4h (by have := Z4g _ _ hw146_0; first | rwa [add_block] at this | exact this) GW152.out))) _).trans (((cell_far (p := ⟨gb152, _, none⟩) (by first | exact Nat.ne_of_lt (Z4h (by have := Z4g _ _ hw146_0; first | rwa [add_block] at this | exact this) GW152.out) | (rw [add_block]; exact Nat.ne_of_lt (Z4h (by have := Z4g _ _ hw146_0; first | rwa [add_block] at this | exact this) GW152.out)) | (show (Addr.add _ _).block ≠ _; rw [add_block]; exact Nat.ne_of_lt (Z4h (by have := Z4g _ _ hw146_0; first | rwa [add_block] at this | exact this) GW152.out)) | (dsimp only; exact Nat.ne_of_lt (Z4h (by have := Z4g _ _ hw146_0; first | rwa [add_block] at this | exact this) GW152.out))) _).trans (hHeld.2.2.2))))⟩ (fun hHeld => ?_)
                clear hK K
                refine pure_ (i := 16) (N := some 9) (v := ?_) (a' := ?_) #[true, true, true, true, true, true, true, true, true, true, true, true, true, true, true, true, true] rfl rfl (any_of HT_.out (by kernel_rfl)) (fun _ _ _ h => h) (Or.inl ⟨by rfl, ?_⟩) ?_ ?_
                rotate_left
                ·
                 intro w'
                 go_simp
                 with_reducible rfl
                rotate_left
                ·
                 simp only [Act.put, Z4a, Z4b, Z4c, i64_w, i32_w]
                 rfl
                refine done_ (done_of HT_.out (by kernel_rfl)) ?_
                have p160 : 0 ≤ ((ji75) : Int) := of_decide_eq_true (by first | (with_reducible assumption) | assumption)
                have q160 : (ji75) < (l0.length : Int) := of_decide_eq_true (by first | (with_reducible assumption) | assumption)
                obtain ⟨ad160, e160, hx160_0⟩ := Kd.at_int HR0.out (ji75) p160 q160
                obtain rfl : ad145 = ad160 := (by injection e160)
                have hn160_0 : ad145.block ≠ gb152 := Nat.ne_of_lt (Z4h (by have := Z4g _ _ hx160_0; first | rwa [add_block] at this | exact this) GW152.out)
                have hn160_1 : ad145.block ≠ gb152 := Nat.ne_of_lt (Z4h (by have := Z4g _ _ hx160_0; first | rwa [add_block] at this | exact this) GW152.out)
                replace hx160_0 := (HB.out.cell (Z4g w _ hx160_0)).trans hx160_0
                replace hx160_0 := (cell_far (p := ⟨gb152, 0, none⟩) (by first | (rw [add_block]; exact hn160_0) | (show (Addr.add _ _).block ≠ _; rw [add_block]; exact hn160_0) | exact hn160_0) (.int .i64 t147)).trans hx160_0
                replace hx160_0 := (cell_far (p := ⟨gb152, 1, none⟩) (by first | (rw [add_block]; exact hn160_1) | (show (Addr.add _ _).block ≠ _; rw [add_block]; exact hn160_1) | exact hn160_1) (.slice Ao86 t148.length co86)).trans hx160_0
                clear hn160_0
                clear hn160_1
                replace p160 := eq_true p160
                replace q160 := eq_true q160
                have hnb88 := NB141_140.out
                have hnc88 := NB140_141.out
                have hnb89 := NB141_152.out
                have hnc89 := NB152_141.out
                have hcz90_0 : w84.cell? ⟨gb141, 0, none⟩ = some (.int .i64 x142000_2) := (Z4r BK141.out 0).trans rfl
                have hcz90_1 : w84.cell? ⟨gb141, 1, none⟩ = some (u142001) := (Z4r BK141.out 1).trans rfl
                have hfz90_0 := blk_frozen BK141.out 0
                have hfz90_1 := blk_frozen BK141.out 1
                obtain ⟨Ao91, co91, eo91⟩ := Kd.V_slice HO_142001.out
                subst eo91
                try go_wp2_with (first | ((with_reducible refine gate_callee (f := 12) rfl ?_); refine goesL_ (some 75) rfl rfl Try.func12 (by kernel_rfl) rfl #[.agg #[.int .i64 x142000_2, .slice Ao91 x142001_2.length co91], .int .i64 (rd l0 (ji75)), .agg #[.int .i64 0, .int .i64 (rd l0 (ji75)), .string (⟨#[]⟩ : ByteArray)]] rfl (by (try simp only [List.map_toArray, List.map_cons, List.map_nil]); first | done | (simp only [hji75]; rfl) | rfl | (simp only [List.length_drop, List.length_take]; rfl)) ?_; (with_reducible refine (window_Put.calls k3 x142000_2 _ _ x142001_2 (rd l0 (ji75)) 0 (rd l0 (ji75)) (⟨#[]⟩ : ByteArray) t161 t162 t165 _ ?side1 ?side2 A78.out).mono ?_); (case side1 => refine (Kd.V_reads' (e := 42) (base := w.heap.size) (ok := fun k_ => (k_ ≠ gb140 ∧ (k_ ≠ gb141 ∧ k_ ≠ gb152))) (n := x142001_2.length) (c := co91) ?_).2.2; exact (by (with_reducible repeat (first | apply Z4o | apply Z4m | apply Z4n)); exact (Z4p (Kd.V_far (p := ⟨gb152, 1, none⟩) (Kd.V_far (p := ⟨gb152, 0, none⟩) (Z4p HO_142001.out (fun k_ hk => (⟨hk, hk.2.2⟩ : _ ∧ k_ ≠ gb152))) (fun _ hk => hk.2) (.int .i64 t147)) (fun _ hk => hk.2) (.slice Ao86 t148.length co86)) (fun _ h_ => h_.1)))); (case side2 => exact (Kd.V_reads' HO_142001.out).2.1); rintro e w92 ⟨v163, rfl, ho0, hb⟩; refine ⟨_, rfl, ?_⟩; have n0_ := Aside0.mk (Z4q (by (with_reducible repeat (first | apply Z4o | apply Z4m | apply Z4n)); exact (Z4p (Kd.V_far (p := ⟨gb152, 1, none⟩) (Kd.V_far (p := ⟨gb152, 0, none⟩) (Z4p HO_141001.out (fun k_ hk => (⟨hk, hk.2.2⟩ : _ ∧ k_ ≠ gb152))) (fun _ hk => hk.2) (.int .i64 t147)) (fun _ hk => hk.2) (.slice Ao86 t148.length co86)) (fun _ h_ => h_.1))) hb); have n1_ := Aside0.mk (Z4q (by (with_reducible repeat (first | apply Z4o | apply Z4m | apply Z4n)); exact (Z4p (Kd.V_far (p := ⟨gb152, 1, none⟩) (Kd.V_far (p := ⟨gb152, 0, none⟩) (Z4p HO_142001.out (fun k_ hk => (⟨hk, hk.2.2⟩ : _ ∧ k_ ≠ gb152))) (fun _ hk => hk.2) (.int .i64 t147)) (fun _ hk => hk.2) (.slice Ao86 t148.length co86)) (fun _ h_ => h_.1))) hb); have n2_ := Aside0.mk (Z4q (by (with_reducible repeat (first | apply Z4o | apply Z4m | apply Z4n)); exact (Z4p (Kd.V_far (p := ⟨gb152, 1, none⟩) (Kd.V_far (p := ⟨gb152, 0, none⟩) (Z4p HO150.out (fun k_ hk => (⟨hk, hk.2.2⟩ : _ ∧ k_ ≠ gb152))) (fun _ hk => hk.2) (.int .i64 t147)) (fun _ hk => hk.2) (.slice Ao86 t148.length co86)) (fun _ h_ => h_.1))) hb); have n3_ := Aside0.mk (Kd.V_lower (Z4p (ok' := fun k_ => k_ ≠ gb140 ∧ k_ ≠ gb141 ∧ k_ ≠ gb152) ho0 (fun k_ hk_ => ⟨(Kd.freshB (g := gb140) (o := .cells #[.int .i64 x141000_2, .slice Ao80 x141001_2.length co80] 24 (0, 0)) (by (with_reducible repeat (first | refine Z4d ?_ _ | refine Z4e ?_ | refine Z4f ?_ _)); refine blk_far ?_ NB140_152.out _; (with_reducible repeat (first | refine Z4d ?_ _ | refine Z4e ?_ | refine Z4f ?_ _)); refine blk_far ?_ NB140_152.out _; (with_reducible repeat (first | refine Z4d ?_ _ | refine Z4e ?_ | refine Z4f ?_ _)); exact BK140.out) k_ hk_), (Kd.freshB (g := gb141) (o := .cells #[.int .i64 x142000_2, .slice Ao91 x142001_2.length co91] 24 (0, 0)) (by (with_reducible repeat (first | refine Z4d ?_ _ | refine Z4e ?_ | refine Z4f ?_ _)); refine blk_far ?_ NB141_152.out _; (with_reducible repeat (first | refine Z4d ?_ _ | refine Z4e ?_ | refine Z4f ?_ _)); refine blk_far ?_ NB141_152.out _; (with_reducible repeat (first | refine Z4d ?_ _ | refine Z4e ?_ | refine Z4f ?_ _)); exact BK141.out) k_ hk_), (Kd.freshB (g := gb152) (o := .cells #[.int .i64 t147, .slice Ao86 t148.length co86] 24 (0, 0)) (by (with_reducible repeat (first | refine Z4d ?_ _ | refine Z4e ?_ | refine Z4f ?_ _)); refine blk_put (cs := #[.int .i64 t147, .slice none 0 0]) ?_ 1 _ rfl; (with_reducible repeat (first | refine Z4d ?_ _ | refine Z4e ?_ | refine Z4f ?_ _)); refine blk_put (cs := #[.int .i64 0, .slice none 0 0]) ?_ 0 _ rfl; (with_reducible repeat (first | refine Z4d ?_ _ | refine Z4e ?_ | refine Z4f ?_ _)); exact BK152.out) k_ hk_)⟩)) (below_size (by repeat (first | (with_reducible first | exact HB.out | apply Z4k | apply Z4i | apply Z4j | refine Z4l ?_ GE140.out | refine Z4l ?_ GE141.out | refine Z4l ?_ GE152.out) | exact HB.out)))); have n4_ := Aside0.mk (blk_below (g := gb140) (o := .cells #[.int .i64 x141000_2, .slice Ao80 x141001_2.length co80] 24 (0, 0)) (by (with_reducible repeat (first | refine Z4d ?_ _ | refine Z4e ?_ | refine Z4f ?_ _)); refine blk_far ?_ NB140_152.out _; (with_reducible repeat (first | refine Z4d ?_ _ | refine Z4e ?_ | refine Z4f ?_ _)); refine blk_far ?_ NB140_152.out _; (with_reducible repeat (first | refine Z4d ?_ _ | refine Z4e ?_ | refine Z4f ?_ _)); exact BK140.out) hb); have n5_ := Aside0.mk (blk_below (g := gb141) (o := .cells #[.int .i64 x142000_2, .slice Ao91 x142001_2.length co91] 24 (0, 0)) (by (with_reducible repeat (first | refine Z4d ?_ _ | refine Z4e ?_ | refine Z4f ?_ _)); refine blk_far ?_ NB141_152.out _; (with_reducible repeat (first | refine Z4d ?_ _ | refine Z4e ?_ | refine Z4f ?_ _)); refine blk_far ?_ NB141_152.out _; (with_reducible repeat (first | refine Z4d ?_ _ | refine Z4e ?_ | refine Z4f ?_ _)); exact BK141.out) hb); have n6_ := Aside0.mk (blk_below (g := gb152) (o := .cells #[.int .i64 t147, .slice Ao86 t148.length co86] 24 (0, 0)) (by (with_reducible repeat (first | refine Z4d ?_ _ | refine Z4e ?_ | refine Z4f ?_ _)); refine blk_put (cs := #[.int .i64 t147, .slice none 0 0]) ?_ 1 _ rfl; (with_reducible repeat (first | refine Z4d ?_ _ | refine Z4e ?_ | refine Z4f ?_ _)); refine blk_put (cs := #[.int .i64 0, .slice none 0 0]) ?_ 0 _ rfl; (with_reducible repeat (first | refine Z4d ?_ _ | refine Z4e ?_ | refine Z4f ?_ _)); exact BK152.out) hb); have n7_ := Aside0.mk (below_step (by repeat (first | (with_reducible first | exact HB.out | apply Z4k | apply Z4i | apply Z4j | refine Z4l ?_ GE140.out | refine Z4l ?_ GE141.out | refine Z4l ?_ GE152.out) | exact HB.out)) hb); clear HO_141001; clear HO_142001; clear HO150; clear BK140; clear BK141; clear BK152; clear HB; have HO_141001 := n0_; have HO_142001 := n1_; have HO150 := n2_; have HO164 := n3_; have BK140 := n4_; have BK141 := n5_; have BK152 := n6_; have HB := n7_; clear n0_ n1_ n2_ n3_ n4_ n5_ n6_ n7_; (try clear hb); (try clear hb2); (try clear hk); (try clear hi); (try clear ho0)) | ((with_reducible refine gate_dst (N := 11) rfl ?_); (try (refine gate_guard (by rfl) ?_; dsimp only)); refine box_event ?hg (N := 11) ?hd (cs := #[.int .i64 0, .slice none 0 0]) (t := 24) ?hr ?_; (case hd => rfl); (case hg => rfl); (case hr => first | (go_simp; done) | (go_simp; rfl)); intro gb166 hg w93 hbox hb; have n0_ := Aside0.mk (Z4q (Kd.V_elderB (by (with_reducible repeat (first | apply Z4o | apply Z4m | apply Z4n)); exact HO_141001.out) gb166 (Nat.le_of_eq hg.symm)) hb); have n1_ := Aside0.mk (Z4q (Kd.V_elderB (by (with_reducible repeat (first | apply Z4o | apply Z4m | apply Z4n)); exact HO_142001.out) gb166 (Nat.le_of_eq hg.symm)) hb); have n2_ := Aside0.mk (Z4q (Kd.V_elderB (by (with_reducible repeat (first | apply Z4o | apply Z4m | apply Z4n)); exact HO150.out) gb166 (Nat.le_of_eq hg.symm)) hb); have n3_ := Aside0.mk (Z4q (Kd.V_elderB (by (with_reducible repeat (first | apply Z4o | apply Z4m | apply Z4n)); exact HO164.out) gb166 (Nat.le_of_eq hg.symm)) hb); have n4_ := Aside0.mk (blk_below (g := gb140) (o := .cells #[.int .i64 x141000_2, .slice Ao80 x141001_2.length co80] 24 (0, 0)) (by (with_reducible repeat (first | refine Z4d ?_ _ | refine Z4e ?_ | refine Z4f ?_ _)); exact BK140.out) hb); have n5_ := Aside0.mk (blk_below (g := gb141) (o := .cells #[.int .i64 x142000_2, .slice Ao91 x142001_2.length co91] 24 (0, 0)) (by (with_reducible repeat (first | refine Z4d ?_ _ | refine Z4e ?_ | refine Z4f ?_ _)); exact BK141.out) hb); have n6_ := Aside0.mk (blk_below (g := gb152) (o := .cells #[.int .i64 t147, .slice Ao86 t148.length co86] 24 (0, 0)) (by (with_reducible repeat (first | refine Z4d ?_ _ | refine Z4e ?_ | refine Z4f ?_ _)); exact BK152.out) hb); have n7_ := Aside0.mk (below_step (by repeat (first | (with_reducible first | exact HB.out | apply Z4k | apply Z4i | apply Z4j | refine Z4l ?_ GE140.out | refine Z4l ?_ GE141.out | refine Z4l ?_ GE152.out) | exact HB.out)) hb); have n8_ := Aside0.mk (hbox); have n9_ := Aside0.mk ((by rw [hg]; exact (below_size (by repeat (first | (with_reducible first | exact HB.out | apply Z4k | apply Z4i | apply Z4j | refine Z4l ?_ GE140.out | refine Z4l ?_ GE141.out | refine Z4l ?_ GE152.out) | exact HB.out))) : w.heap.size ≤ gb166)); have n10_ := Aside0.mk ((by rw [hg]; exact (below_size (by repeat (first | (with_reducible first | exact HB.out | apply Z4k | apply Z4i | apply Z4j | refine Z4l ?_ GE140.out | refine Z4l ?_ GE141.out | refine Z4l ?_ GE152.out) | exact HB.out))) : w.heap.size ≤ gb166)); have n11_ := Aside0.mk ((by rw [hg]; exact Nat.ne_of_lt (blk_lt (g := gb140) (o := .cells #[.int .i64 x141000_2, .slice Ao80 x141001_2.length co80] 24 (0, 0)) (by (with_reducible repeat (first | refine Z4d ?_ _ | refine Z4e ?_ | refine Z4f ?_ _)); exact BK140.out)) : gb140 ≠ gb166)); have n12_ := Aside0.mk ((by rw [hg]; exact Nat.ne_of_gt (blk_lt (g := gb140) (o := .cells #[.int .i64 x141000_2, .slice Ao80 x141001_2.length co80] 24 (0, 0)) (by (with_reducible repeat (first | refine Z4d ?_ _ | refine Z4e ?_ | refine Z4f ?_ _)); exact BK140.out)) : gb166 ≠ gb140)); have n13_ := Aside0.mk ((by rw [hg]; exact Nat.ne_of_lt (blk_lt (g := gb141) (o := .cells #[.int .i64 x142000_2, .slice Ao91 x142001_2.length co91] 24 (0, 0)) (by (with_reducible repeat (first | refine Z4d ?_ _ | refine Z4e ?_ | refine Z4f ?_ _)); exact BK141.out)) : gb141 ≠ gb166)); have n14_ := Aside0.mk ((by rw [hg]; exact Nat.ne_of_gt (blk_lt (g := gb141) (o := .cells #[.int .i64 x142000_2, .slice Ao91 x142001_2.length co91] 24 (0, 0)) (by (with_reducible repeat (first | refine Z4d ?_ _ | refine Z4e ?_ | refine Z4f ?_ _)); exact BK141.out)) : gb166 ≠ gb141)); have n15_ := Aside0.mk ((by rw [hg]; exact Nat.ne_of_lt (blk_lt (g := gb152) (o := .cells #[.int .i64 t147, .slice Ao86 t148.length co86] 24 (0, 0)) (by (with_reducible repeat (first | refine Z4d ?_ _ | refine Z4e ?_ | refine Z4f ?_ _)); exact BK152.out)) : gb152 ≠ gb166)); have n16_ := Aside0.mk ((by rw [hg]; exact Nat.ne_of_gt (blk_lt (g := gb152) (o := .cells #[.int .i64 t147, .slice Ao86 t148.length co86] 24 (0, 0)) (by (with_reducible repeat (first | refine Z4d ?_ _ | refine Z4e ?_ | refine Z4f ?_ _)); exact BK152.out)) : gb166 ≠ gb152)); clear HO_141001; clear HO_142001; clear HO150; clear HO164; clear BK140; clear BK141; clear BK152; clear HB; have HO_141001 := n0_; have HO_142001 := n1_; have HO150 := n2_; have HO164 := n3_; have BK140 := n4_; have BK141 := n5_; have BK152 := n6_; have HB := n7_; have BK166 := n8_; have GW166 := n9_; have GE166 := n10_; have NB140_166 := n11_; have NB166_140 := n12_; have NB141_166 := n13_; have NB166_141 := n14_; have NB152_166 := n15_; have NB166_152 := n16_; clear n0_ n1_ n2_ n3_ n4_ n5_ n6_ n7_ n8_ n9_ n10_ n11_ n12_ n13_ n14_ n15_ n16_; clear hb hbox hg; have hnb94 := NB166_140.out; have hnc94 := NB140_166.out; have hnb95 := NB166_141.out; have hnc95 := NB141_166.out; have hnb96 := NB166_152.out; have hnc96 := NB152_166.out; have hcz97_0 : w93.cell? ⟨gb166, 0, none⟩ = some (.int .i64 0) := (Z4r BK166.out 0).trans rfl; have hcz97_1 : w93.cell? ⟨gb166, 1, none⟩ = some (.slice none 0 0) := (Z4r BK166.out 1).trans rfl; have hfz97_0 := blk_frozen BK166.out 0; have hfz97_1 := blk_frozen BK166.out 1; obtain ⟨Ao98, co98, eo98⟩ := Kd.V_slice HO164.out; subst eo98; have hcz99_0 : w93.cell? ⟨gb141, 0, none⟩ = some (.int .i64 x142000_2) := (Z4r BK141.out 0).trans rfl; have hcz99_1 : w93.cell? ⟨gb141, 1, none⟩ = some (.slice Ao91 x142001_2.length co91) := (Z4r BK141.out 1).trans rfl; have hfz99_0 := blk_frozen BK141.out 0; have hfz99_1 := blk_frozen BK141.out 1))
                go_roundg k3
                case measure => have := HJ2.out; have := HK2.out; have := HK3.out; omega
                case rel => exact ⟨(wrap64 (x6_2 + 1)), (x141000_2), (x141001_2), (t161), (t162), (.slice Ao80 x141001_2.length co80), (.slice Ao98 t162.length co98), (by first | rfl | (simp; done) | (simp [*]; done)), H', ⟨by have := HJ2.out; have := HK2.out; have := HK3.out; omega⟩, ⟨by (with_reducible repeat (first | apply Z4o | apply Z4m | apply Z4n)); exact Z4p (Kd.V_far (p := ⟨gb141, 1, none⟩) (Kd.V_far (p := ⟨gb141, 0, none⟩) (Kd.V_far (p := ⟨gb166, 1, none⟩) (Kd.V_far (p := ⟨gb166, 0, none⟩) (Z4p (Z4p HO_141001.out (fun k_ hk => (⟨hk, hk.2⟩ : _ ∧ k_ ≠ gb166))) (fun k_ hk => (⟨hk, hk.1.1.2.1⟩ : _ ∧ k_ ≠ gb141))) (fun _ hk => hk.1.2) (.int .i64 t161)) (fun _ hk => hk.1.2) (.slice Ao98 t162.length co98)) (fun _ hk => hk.2) (.int .i64 t161)) (fun _ hk => hk.2) (.slice Ao98 t162.length co98)) (fun _ hk => ⟨hk.1.1.1.1, hk.1.1.1.2.1⟩)⟩, ⟨by (with_reducible repeat (first | apply Z4o | apply Z4m | apply Z4n)); exact Z4p (Kd.V_far (p := ⟨gb141, 1, none⟩) (Kd.V_far (p := ⟨gb141, 0, none⟩) (Kd.V_far (p := ⟨gb166, 1, none⟩) (Kd.V_far (p := ⟨gb166, 0, none⟩) (Z4p (Z4p HO164.out (fun k_ hk => (⟨hk, hk.2⟩ : _ ∧ k_ ≠ gb166))) (fun k_ hk => (⟨hk, hk.1.1.2.1⟩ : _ ∧ k_ ≠ gb141))) (fun _ hk => hk.1.2) (.int .i64 t161)) (fun _ hk => hk.1.2) (.slice Ao98 t162.length co98)) (fun _ hk => hk.2) (.int .i64 t161)) (fun _ hk => hk.2) (.slice Ao98 t162.length co98)) (fun _ hk => ⟨hk.1.1.1.1, hk.1.1.1.2.1⟩)⟩, ⟨by (with_reducible repeat (first | refine Z4d ?_ _ | refine Z4e ?_ | refine Z4f ?_ _)); refine blk_far ?_ NB140_141.out _; (with_reducible repeat (first | refine Z4d ?_ _ | refine Z4e ?_ | refine Z4f ?_ _)); refine blk_far ?_ NB140_141.out _; (with_reducible repeat (first | refine Z4d ?_ _ | refine Z4e ?_ | refine Z4f ?_ _)); refine blk_far ?_ NB140_166.out _; (with_reducible repeat (first | refine Z4d ?_ _ | refine Z4e ?_ | refine Z4f ?_ _)); refine blk_far ?_ NB140_166.out _; (with_reducible repeat (first | refine Z4d ?_ _ | refine Z4e ?_ | refine Z4f ?_ _)); exact BK140.out⟩, ⟨by (with_reducible repeat (first | refine Z4d ?_ _ | refine Z4e ?_ | refine Z4f ?_ _)); refine blk_put (cs := #[.int .i64 t161, .slice Ao91 x142001_2.length co91]) ?_ 1 _ rfl; (with_reducible repeat (first | refine Z4d ?_ _ | refine Z4e ?_ | refine Z4f ?_ _)); refine blk_put (cs := #[.int .i64 x142000_2, .slice Ao91 x142001_2.length co91]) ?_ 0 _ rfl; (with_reducible repeat (first | refine Z4d ?_ _ | refine Z4e ?_ | refine Z4f ?_ _)); refine blk_far ?_ NB141_166.out _; (with_reducible repeat (first | refine Z4d ?_ _ | refine Z4e ?_ | refine Z4f ?_ _)); refine blk_far ?_ NB141_166.out _; (with_reducible repeat (first | refine Z4d ?_ _ | refine Z4e ?_ | refine Z4f ?_ _)); exact BK141.out⟩, ⟨by repeat (first | (with_reducible first | exact HB.out | apply Z4k | apply Z4i | apply Z4j | refine Z4l ?_ GE140.out | refine Z4l ?_ GE141.out | refine Z4l ?_ GE152.out | refine Z4l ?_ GE166.out) | exact HB.out)⟩⟩
               ·
                rw [if_neg c79] at H
                have c79b0 : (t165 == 0) = false := beq_eq_false_iff_ne.mpr c79
                have c79b1 : (t165 != 0) = true := bne_iff_ne.mpr c79
                have H' := Aside0.mk H
                clear H
                obtain ⟨Ao100, co100, eo100⟩ := Kd.V_slice HO_141001.out
                subst eo100
                try go_wp2
                have n0_ := Aside0.mk (Z4n HO_141001.out)
                have n1_ := Aside0.mk (Z4n HO_142001.out)
                have n2_ := Aside0.mk (Z4e BK140.out)
                have n3_ := Aside0.mk (Z4e BK141.out)
                have n4_ := Aside0.mk (Z4j HB.out)
                clear HO_141001
                clear HO_142001
                clear BK140
                clear BK141
                clear HB
                have HO_141001 := n0_
                have HO_142001 := n1_
                have BK140 := n2_
                have BK141 := n3_
                have HB := n4_
                clear n0_ n1_ n2_ n3_ n4_
                have p145 : 0 ≤ (x6_2 : Int) := of_decide_eq_true (by first | (with_reducible assumption) | assumption)
                have q145 : x6_2 < (l0.length : Int) := of_decide_eq_true (by first | (with_reducible assumption) | assumption)
                obtain ⟨ad145, e145, hx145_0⟩ := Kd.at_int HR0.out x6_2 p145 q145
                have hw145_0 := hx145_0
                cases e145
                replace hx145_0 := (HB.out.cell (Z4g w _ hx145_0)).trans hx145_0
                replace p145 := eq_true p145
                replace q145 := eq_true q145
                have p146 : 0 ≤ (x6_2 : Int) := of_decide_eq_true (by first | (with_reducible assumption) | assumption)
                have q146 : x6_2 < (l0.length : Int) := of_decide_eq_true (by first | (with_reducible assumption) | assumption)
                obtain ⟨ad146, e146, hx146_0⟩ := Kd.at_int HR0.out x6_2 p146 q146
                have hw146_0 := hx146_0
                obtain rfl : ad145 = ad146 := (by injection e146)
                replace hx146_0 := (HB.out.cell (Z4g w _ hx146_0)).trans hx146_0
                replace p146 := eq_true p146
                replace q146 := eq_true q146
                refine start_ (n := 17) (S := fun w' => w'.cell? ⟨gb140, 0, none⟩ = some (.int .i64 x141000_2) ∧ w'.cell? ⟨gb140, 1, none⟩ = some (.slice Ao100 x141001_2.length co100) ∧ w'.cell? (ad145.add (x6_2).toNat) = some (.int .i64 (rd l0 x6_2)) ∧ w'.cell? (ad145.add (x6_2).toNat) = some (.int .i64 (rd l0 x6_2))) (ds := []) #[false, false, false, false, false, false, false, false, false, false, false, false, false, false, false, false, false] (by kernel_rfl) rfl rfl ⟨(Z4r BK140.out 0).trans rfl, (Z4r BK140.out 1).trans rfl, ((HB.out.cell (Z4g w _ hw145_0)).trans hw145_0), ((HB.out.cell (Z4g w _ hw146_0)).trans hw146_0)⟩ (fun hHeld => ?_); refine with_tabW colloquylaw17_WindowOrder.tab14 colloquylaw17_WindowOrder.bits14 (fun HT_ HW_ => ?_)
                generalize wr.drew = w101 at HO_141001 HO_142001 BK140 BK141 HB hx145_0 hx146_0 hHeld ⊢
                refine pure_ (i := 1) (N := some 47) (v := ?_) (a' := ?_) #[false, true, false, false, false, false, false, false, false, false, false, false, false, false, false, false, false] rfl rfl (any_of HT_.out (by kernel_rfl)) (fun _ _ _ h => h) (Or.inl ⟨by rfl, ?_⟩) ?_ ?_
                rotate_left
                ·
                 intro w'
                 go_simp
                 with_reducible rfl
                rotate_left
                ·
                 simp only [Act.put, Z4a, Z4b, Z4c, i64_w, i32_w]
                 rfl
                refine pure_ (i := 2) (N := some 48) (v := ?_) (a' := ?_) #[false, true, true, false, false, false, false, false, false, false, false, false, false, false, false, false, false] rfl rfl (any_of HT_.out (by kernel_rfl)) (fun _ _ _ h => h) (Or.inl ⟨by rfl, ?_⟩) ?_ ?_
                rotate_left
                ·
                 intro w'
                 go_simp
                 with_reducible rfl
                rotate_left
                ·
                 simp only [Act.put, Z4a, Z4b, Z4c, i64_w, i32_w]
                 rfl
                refine pure_ (i := 3) (N := some 49) (v := ?_) (a' := ?_) #[false, true, true, true, false, false, false, false, false, false, false, false, false, false, false, false, false] rfl rfl (any_of HT_.out (by kernel_rfl)) (fun _ _ _ h => h) (Or.inl ⟨by rfl, ?_⟩) ?_ ?_
                rotate_left
                ·
                 intro w'
                 go_simp
                 with_reducible rfl
                rotate_left
                ·
                 simp only [Act.put, Z4a, Z4b, Z4c, i64_w, i32_w]
                 rfl
                refine pure_ (i := 5) (N := some 51) (v := ?_) (a' := ?_) #[false, true, true, true, false, true, false, false, false, false, false, false, false, false, false, false, false] rfl rfl (any_of HT_.out (by kernel_rfl)) (fun _ _ _ h => h) (Or.inl ⟨by rfl, ?_⟩) ?_ ?_
                rotate_left
                ·
                 intro w'
                 go_simp
                 with_reducible rfl
                rotate_left
                ·
                 simp only [Act.put, Z4a, Z4b, Z4c, i64_w, i32_w]
                 rfl
                refine pure_ (i := 6) (N := some 52) (v := ?_) (a' := ?_) #[false, true, true, true, false, true, true, false, false, false, false, false, false, false, false, false, false] rfl rfl (any_of HT_.out (by kernel_rfl)) (fun _ _ _ h => h) (Or.inl ⟨by rfl, ?_⟩) ?_ ?_
                rotate_left
                ·
                 intro w'
                 go_simp
                 with_reducible rfl
                rotate_left
                ·
                 simp only [Act.put, Z4a, Z4b, Z4c, i64_w, i32_w]
                 rfl
                refine pure_ (i := 7) (N := some 53) (v := ?_) (a' := ?_) #[false, true, true, true, false, true, true, true, false, false, false, false, false, false, false, false, false] rfl rfl (any_of HT_.out (by kernel_rfl)) (fun _ _ _ h => h) (Or.inl ⟨by rfl, ?_⟩) ?_ ?_
                rotate_left
                ·
                 intro w'
                 go_simp
                 with_reducible rfl
                rotate_left
                ·
                 simp only [Act.put, Z4a, Z4b, Z4c, i64_w, i32_w]
                 rfl
                refine take_ (i := 0) (N := some 46) (v := ?_) (a' := ?_) #[true, true, true, true, false, true, true, true, false, false, false, false, false, false, false, false, false] rfl rfl (take_ofW HT_.out HW_.out (by kernel_rfl)) (fun _ _ _ h => h) (Or.inl ⟨by rfl, ?_⟩) hHeld ?_ ?_
                rotate_left
                ·
                 rintro w' ⟨s0, s1, s2, s3⟩
                 go_simp
                 with_reducible rfl
                rotate_left
                ·
                 simp only [Act.put, Z4a, Z4b, Z4c, i64_w, i32_w]
                 rfl
                refine take_ (i := 4) (N := some 50) (v := ?_) (a' := ?_) #[true, true, true, true, true, true, true, true, false, false, false, false, false, false, false, false, false] rfl rfl (take_ofW HT_.out HW_.out (by kernel_rfl)) (fun _ _ _ h => h) (Or.inl ⟨by rfl, ?_⟩) hHeld ?_ ?_
                rotate_left
                ·
                 rintro w' ⟨s0, s1, s2, s3⟩
                 go_simp
                 with_reducible rfl
                rotate_left
                ·
                 simp only [Act.put, Z4a, Z4b, Z4c, i64_w, i32_w]
                 rfl
                refine take_ (i := 8) (N := some 54) (v := ?_) (a' := ?_) #[true, true, true, true, true, true, true, true, true, false, false, false, false, false, false, false, false] rfl rfl (take_ofW HT_.out HW_.out (by kernel_rfl)) (fun _ _ _ h => h) (Or.inl ⟨by rfl, ?_⟩) hHeld ?_ ?_
                rotate_left
                ·
                 rintro w' ⟨s0, s1, s2, s3⟩
                 go_simp
                 with_reducible rfl
                rotate_left
                ·
                 simp only [Act.put, Z4a, Z4b, Z4c, i64_w, i32_w]
                 rfl
                refine pure_ (i := 9) (N := some 55) (v := ?_) (a' := ?_) #[true, true, true, true, true, true, true, true, true, true, false, false, false, false, false, false, false] rfl rfl (any_of HT_.out (by kernel_rfl)) (fun _ _ _ h => h) (Or.inl ⟨by rfl, ?_⟩) ?_ ?_
                rotate_left
                ·
                 intro w'
                 go_simp
                 with_reducible rfl
                rotate_left
                ·
                 simp only [Act.put, Z4a, Z4b, Z4c, i64_w, i32_w]
                 rfl
                refine join_ (σ := Value × Nat) 2 #[true, true, true, true, true, true, true, true, true, true, true, true, true, true, true, false, false] (fun s_ => [(56, .tuple #[.agg #[.int .i64 t147, s_.1], .int .i64 t151]), (8, .pointer (some ⟨s_.2, 0, none⟩)), (45, .tuple #[.agg #[.int .i64 t147, s_.1], .int .i64 t151]), (57, .agg #[.int .i64 t147, s_.1]), (58, .int .i64 t151)]) (fun s_ w' => (w'.cell? ⟨gb140, 0, none⟩ = some (.int .i64 x141000_2) ∧ w'.cell? ⟨gb140, 1, none⟩ = some (.slice Ao100 x141001_2.length co100) ∧ w'.cell? (ad145.add (x6_2).toNat) = some (.int .i64 (rd l0 x6_2)) ∧ w'.cell? (ad145.add (x6_2).toNat) = some (.int .i64 (rd l0 x6_2))) ∧ (Kd.V k42 42 w' w.heap.size (fun k_ => k_ ≠ gb140 ∧ k_ ≠ gb141 ∧ k_ ≠ s_.2) s_.1 t148) ∧ (Kd.V k42 42 w' w.heap.size (fun k_ => k_ ≠ gb140 ∧ k_ ≠ gb141 ∧ k_ ≠ s_.2) (.slice Ao100 x141001_2.length co100) x141001_2) ∧ (Kd.V k42 42 w' w.heap.size (fun k_ => k_ ≠ gb140 ∧ k_ ≠ gb141 ∧ k_ ≠ s_.2) u142001 x142001_2) ∧ (w'.heap[gb140]? = some (.cells #[.int .i64 x141000_2, .slice Ao100 x141001_2.length co100] 24 (0, 0))) ∧ (w'.heap[gb141]? = some (.cells #[.int .i64 x142000_2, u142001] 24 (0, 0))) ∧ (w'.heap[s_.2]? = some (.cells #[.int .i64 0, .slice none 0 0] 24 (0, 0))) ∧ (w.heap.size ≤ s_.2) ∧ (w.heap.size ≤ s_.2) ∧ (gb140 ≠ s_.2) ∧ (s_.2 ≠ gb140) ∧ (gb141 ≠ s_.2) ∧ (s_.2 ≠ gb141) ∧ (Below w.heap.size w w')) ?_ ?_
                rotate_left
                ·
                 intro hCont
                 refine two_ (i := 10) (j := 14) (Ni := some 56) (Nj := some 8) #[true, true, true, true, true, true, true, true, true, true, true, false, false, false, false, false, false] #[true, true, true, true, true, true, true, true, true, true, false, false, false, false, true, false, false] rfl rfl rfl rfl (two_of HT_.out (by kernel_rfl)) (by decide) (by decide) (fun K hK => ?_) (fun K hK => ?_)
                 ·
                  skip
                  refine goes_ Try.func12 (by kernel_rfl) rfl #[.agg #[.int .i64 x141000_2, .slice Ao100 x141001_2.length co100], .int .i64 (rd l0 x6_2), .agg #[.int .i64 0, .int .i64 (rd l0 x6_2), .string (⟨#[]⟩ : ByteArray)]] (by rfl) rfl rfl (by (try simp only [List.map_toArray, List.map_cons, List.map_nil]); first | done | rfl | (simp only [List.length_drop, List.length_take]; rfl)) ?_
                  with_reducible refine (window_Put.calls k3 x141000_2 _ _ x141001_2 (rd l0 x6_2) 0 (rd l0 x6_2) (⟨#[]⟩ : ByteArray) t147 t148 t151 _ ?side1 ?side2 A23.out).mono ?_
                  (case side1 => repeat (first | exact (Kd.V_reads' HO_141001.out).2.2 | (with_reducible refine Kd.C_alloc ?_ _) | (with_reducible refine Kd.C_drewN ?_ _) | (with_reducible refine Kd.C_drew ?_)))
                  (case side2 => exact (Kd.V_reads' HO_141001.out).2.1)
                  rintro e w102 ⟨v149, rfl, ho0, hb⟩
                  refine ⟨_, rfl, ?_⟩
                  have n0_ := Aside0.mk (Z4q (by (with_reducible repeat (first | apply Z4o | apply Z4m | apply Z4n)); exact HO_141001.out) hb)
                  have n1_ := Aside0.mk (Z4q (by (with_reducible repeat (first | apply Z4o | apply Z4m | apply Z4n)); exact HO_142001.out) hb)
                  have n2_ := Aside0.mk (Kd.V_lower (Z4p (ok' := fun k_ => k_ ≠ gb140 ∧ k_ ≠ gb141) ho0 (fun k_ hk_ => ⟨(Kd.freshB (g := gb140) (o := .cells #[.int .i64 x141000_2, .slice Ao100 x141001_2.length co100] 24 (0, 0)) (by (with_reducible repeat (first | refine Z4d ?_ _ | refine Z4e ?_ | refine Z4f ?_ _)); exact BK140.out) k_ hk_), (Kd.freshB (g := gb141) (o := .cells #[.int .i64 x142000_2, u142001] 24 (0, 0)) (by (with_reducible repeat (first | refine Z4d ?_ _ | refine Z4e ?_ | refine Z4f ?_ _)); exact BK141.out) k_ hk_)⟩)) (below_size (by repeat (first | (with_reducible first | exact HB.out | apply Z4k | apply Z4i | apply Z4j | refine Z4l ?_ GE140.out | refine Z4l ?_ GE141.out) | exact HB.out))))
                  have n3_ := Aside0.mk (blk_below (g := gb140) (o := .cells #[.int .i64 x141000_2, .slice Ao100 x141001_2.length co100] 24 (0, 0)) (by (with_reducible repeat (first | refine Z4d ?_ _ | refine Z4e ?_ | refine Z4f ?_ _)); exact BK140.out) hb)
                  have n4_ := Aside0.mk (blk_below (g := gb141) (o := .cells #[.int .i64 x142000_2, u142001] 24 (0, 0)) (by (with_reducible repeat (first | refine Z4d ?_ _ | refine Z4e ?_ | refine Z4f ?_ _)); exact BK141.out) hb)
                  have n5_ := Aside0.mk (below_step (by repeat (first | (with_reducible first | exact HB.out | apply Z4k | apply Z4i | apply Z4j | refine Z4l ?_ GE140.out | refine Z4l ?_ GE141.out) | exact HB.out)) hb)
                  clear HO_141001
                  clear HO_142001
                  clear BK140
                  clear BK141
                  clear HB
                  have HO_141001 := n0_
                  have HO_142001 := n1_
                  have HO150 := n2_
                  have BK140 := n3_
                  have BK141 := n4_
                  have HB := n5_
                  clear n0_ n1_ n2_ n3_ n4_ n5_
                  (try clear hb)
                  (try clear hb2)
                  (try clear hk)
                  (try clear hi)
                  (try clear ho0)
                  refine hK.out _ _ ⟨(Z4r BK140.out 0).trans rfl, (Z4r BK140.out 1).trans rfl, ((HB.out.cell (Z4g w _ hw145_0)).trans hw145_0), ((HB.out.cell (Z4g w _ hw146_0)).trans hw146_0)⟩ (fun hHeld => ?_)
                  clear hK K
                  refine norm_ (a' := ?_) ?_ ?_
                  rotate_left
                  ·
                   show Act.put _ (some 56) _ = _
                   simp only [Act.put, Z4a, Z4b, Z4c, i64_w, i32_w]
                   rfl
                  refine pure_ (i := 11) (N := some 45) (v := ?_) (a' := ?_) #[true, true, true, true, true, true, true, true, true, true, true, true, false, false, false, false, false] rfl rfl (any_of HT_.out (by kernel_rfl)) (fun _ _ _ h => h) (Or.inl ⟨by rfl, ?_⟩) ?_ ?_
                  rotate_left
                  ·
                   intro w'
                   go_simp
                   with_reducible rfl
                  rotate_left
                  ·
                   simp only [Act.put, Z4a, Z4b, Z4c, i64_w, i32_w]
                   rfl
                  refine pure_ (i := 12) (N := some 57) (v := ?_) (a' := ?_) #[true, true, true, true, true, true, true, true, true, true, true, true, true, false, false, false, false] rfl rfl (any_of HT_.out (by kernel_rfl)) (fun _ _ _ h => h) (Or.inl ⟨by rfl, ?_⟩) ?_ ?_
                  rotate_left
                  ·
                   intro w'
                   go_simp
                   with_reducible rfl
                  rotate_left
                  ·
                   simp only [Act.put, Z4a, Z4b, Z4c, i64_w, i32_w]
                   rfl
                  refine pure_ (i := 13) (N := some 58) (v := ?_) (a' := ?_) #[true, true, true, true, true, true, true, true, true, true, true, true, true, true, false, false, false] rfl rfl (any_of HT_.out (by kernel_rfl)) (fun _ _ _ h => h) (Or.inl ⟨by rfl, ?_⟩) ?_ ?_
                  rotate_left
                  ·
                   intro w'
                   go_simp
                   with_reducible rfl
                  rotate_left
                  ·
                   simp only [Act.put, Z4a, Z4b, Z4c, i64_w, i32_w]
                   rfl
                  refine one_ (i := 14) (N := some 8) #[true, true, true, true, true, true, true, true, true, true, true, true, true, true, true, false, false] rfl rfl (one_of HT_.out (by kernel_rfl)) (by decide) (fun K hK => ?_)
                  refine box_step ?hg (N := 8) ?hd (cs := #[.int .i64 0, .slice none 0 0]) (t := 24) ?hr ?_; (case hd => rfl); (case hg => rfl); (case hr => first | (go_simp; done) | (go_simp; rfl))
                  intro gb152 hg w103 hbox hb
                  have n0_ := Aside0.mk (Z4q (Kd.V_elderB (by (with_reducible repeat (first | apply Z4o | apply Z4m | apply Z4n)); exact HO_141001.out) gb152 (Nat.le_of_eq hg.symm)) hb)
                  have n1_ := Aside0.mk (Z4q (Kd.V_elderB (by (with_reducible repeat (first | apply Z4o | apply Z4m | apply Z4n)); exact HO_142001.out) gb152 (Nat.le_of_eq hg.symm)) hb)
                  have n2_ := Aside0.mk (Z4q (Kd.V_elderB (by (with_reducible repeat (first | apply Z4o | apply Z4m | apply Z4n)); exact HO150.out) gb152 (Nat.le_of_eq hg.symm)) hb)
                  have n3_ := Aside0.mk (blk_below (g := gb140) (o := .cells #[.int .i64 x141000_2, .slice Ao100 x141001_2.length co100] 24 (0, 0)) (by (with_reducible repeat (first | refine Z4d ?_ _ | refine Z4e ?_ | refine Z4f ?_ _)); exact BK140.out) hb)
                  have n4_ := Aside0.mk (blk_below (g := gb141) (o := .cells #[.int .i64 x142000_2, u142001] 24 (0, 0)) (by (with_reducible repeat (first | refine Z4d ?_ _ | refine Z4e ?_ | refine Z4f ?_ _)); exact BK141.out) hb)
                  have n5_ := Aside0.mk (below_step (by repeat (first | (with_reducible first | exact HB.out | apply Z4k | apply Z4i | apply Z4j | refine Z4l ?_ GE140.out | refine Z4l ?_ GE141.out) | exact HB.out)) hb)
                  have n6_ := Aside0.mk (hbox)
                  have n7_ := Aside0.mk ((by rw [hg]; exact (below_size (by repeat (first | (with_reducible first | exact HB.out | apply Z4k | apply Z4i | apply Z4j | refine Z4l ?_ GE140.out | refine Z4l ?_ GE141.out) | exact HB.out))) : w.heap.size ≤ gb152))
                  have n8_ := Aside0.mk ((by rw [hg]; exact (below_size (by repeat (first | (with_reducible first | exact HB.out | apply Z4k | apply Z4i | apply Z4j | refine Z4l ?_ GE140.out | refine Z4l ?_ GE141.out) | exact HB.out))) : w.heap.size ≤ gb152))
                  have n9_ := Aside0.mk ((by rw [hg]; exact Nat.ne_of_lt (blk_lt (g := gb140) (o := .cells #[.int .i64 x141000_2, .slice Ao100 x141001_2.length co100] 24 (0, 0)) (by (with_reducible repeat (first | refine Z4d ?_ _ | refine Z4e ?_ | refine Z4f ?_ _)); exact BK140.out)) : gb140 ≠ gb152))
                  have n10_ := Aside0.mk ((by rw [hg]; exact Nat.ne_of_gt (blk_lt (g := gb140) (o := .cells #[.int .i64 x141000_2, .slice Ao100 x141001_2.length co100] 24 (0, 0)) (by (with_reducible repeat (first | refine Z4d ?_ _ | refine Z4e ?_ | refine Z4f ?_ _)); exact BK140.out)) : gb152 ≠ gb140))
                  have n11_ := Aside0.mk ((by rw [hg]; exact Nat.ne_of_lt (blk_lt (g := gb141) (o := .cells #[.int .i64 x142000_2, u142001] 24 (0, 0)) (by (with_reducible repeat (first | refine Z4d ?_ _ | refine Z4e ?_ | refine Z4f ?_ _)); exact BK141.out)) : gb141 ≠ gb152))
                  have n12_ := Aside0.mk ((by rw [hg]; exact Nat.ne_of_gt (blk_lt (g := gb141) (o := .cells #[.int .i64 x142000_2, u142001] 24 (0, 0)) (by (with_reducible repeat (first | refine Z4d ?_ _ | refine Z4e ?_ | refine Z4f ?_ _)); exact BK141.out)) : gb152 ≠ gb141))
                  clear HO_141001
                  clear HO_142001
                  clear HO150
                  clear BK140
                  clear BK141
                  clear HB
                  have HO_141001 := n0_
                  have HO_142001 := n1_
                  have HO150 := n2_
                  have BK140 := n3_
                  have BK141 := n4_
                  have HB := n5_
                  have BK152 := n6_
                  have GW152 := n7_
                  have GE152 := n8_
                  have NB140_152 := n9_
                  have NB152_140 := n10_
                  have NB141_152 := n11_
                  have NB152_141 := n12_
                  clear n0_ n1_ n2_ n3_ n4_ n5_ n6_ n7_ n8_ n9_ n10_ n11_ n12_
                  clear hb hbox hg
                  refine hK.out _ _ ⟨(Z4r BK140.out 0).trans rfl, (Z4r BK140.out 1).trans rfl, ((HB.out.cell (Z4g w _ hw145_0)).trans hw145_0), ((HB.out.cell (Z4g w _ hw146_0)).trans hw146_0)⟩ (fun hHeld => ?_)
                  clear hK K
                  refine norm_ (a' := ?_) ?_ ?_
                  rotate_left
                  ·
                   show Act.put _ (some 8) _ = _
                   simp only [Act.put, Z4a, Z4b, Z4c, i64_w, i32_w]
                   rfl
                  exact norm_ (by simp only [putAll, Act.put, List.setIfInBounds_toArray, List.set_cons_zero, List.set_cons_succ]) (hCont (v149, gb152) _ ⟨hHeld, (by (with_reducible repeat (first | apply Z4o | apply Z4m | apply Z4n)); exact Z4p HO150.out (fun _ hk => ⟨hk.1.1, ⟨hk.1.2, hk.2⟩⟩)), (by (with_reducible repeat (first | apply Z4o | apply Z4m | apply Z4n)); exact Z4p HO_141001.out (fun _ hk => ⟨hk.1.1, ⟨hk.1.2, hk.2⟩⟩)), (by (with_reducible repeat (first | apply Z4o | apply Z4m | apply Z4n)); exact Z4p HO_142001.out (fun _ hk => ⟨hk.1.1, ⟨hk.1.2, hk.2⟩⟩)), (by (with_reducible repeat (first | refine Z4d ?_ _ | refine Z4e ?_ | refine Z4f ?_ _)); exact BK140.out), (by (with_reducible repeat (first | refine Z4d ?_ _ | refine Z4e ?_ | refine Z4f ?_ _)); exact BK141.out), (by (with_reducible repeat (first | refine Z4d ?_ _ | refine Z4e ?_ | refine Z4f ?_ _)); exact BK152.out), GW152.out, GE152.out, NB140_152.out, NB152_140.out, NB141_152.out, NB152_141.out, (by repeat (first | (with_reducible first | exact HB.out | apply Z4k | apply Z4i | apply Z4j | refine Z4l ?_ GE140.out | refine Z4l ?_ GE141.out | refine Z4l ?_ GE152.out) | exact HB.out))⟩)
                 ·
                  skip
                  refine box_step ?hg (N := 8) ?hd (cs := #[.int .i64 0, .slice none 0 0]) (t := 24) ?hr ?_; (case hd => rfl); (case hg => rfl); (case hr => first | (go_simp; done) | (go_simp; rfl))
                  intro gb152 hg w102 hbox hb
                  have n0_ := Aside0.mk (Z4q (Kd.V_elderB (by (with_reducible repeat (first | apply Z4o | apply Z4m | apply Z4n)); exact HO_141001.out) gb152 (Nat.le_of_eq hg.symm)) hb)
                  have n1_ := Aside0.mk (Z4q (Kd.V_elderB (by (with_reducible repeat (first | apply Z4o | apply Z4m | apply Z4n)); exact HO_142001.out) gb152 (Nat.le_of_eq hg.symm)) hb)
                  have n2_ := Aside0.mk (blk_below (g := gb140) (o := .cells #[.int .i64 x141000_2, .slice Ao100 x141001_2.length co100] 24 (0, 0)) (by (with_reducible repeat (first | refine Z4d ?_ _ | refine Z4e ?_ | refine Z4f ?_ _)); exact BK140.out) hb)
                  have n3_ := Aside0.mk (blk_below (g := gb141) (o := .cells #[.int .i64 x142000_2, u142001] 24 (0, 0)) (by (with_reducible repeat (first | refine Z4d ?_ _ | refine Z4e ?_ | refine Z4f ?_ _)); exact BK141.out) hb)
                  have n4_ := Aside0.mk (below_step (by repeat (first | (with_reducible first | exact HB.out | apply Z4k | apply Z4i | apply Z4j | refine Z4l ?_ GE140.out | refine Z4l ?_ GE141.out) | exact HB.out)) hb)
                  have n5_ := Aside0.mk (hbox)
                  have n6_ := Aside0.mk ((by rw [hg]; exact (below_size (by repeat (first | (with_reducible first | exact HB.out | apply Z4k | apply Z4i | apply Z4j | refine Z4l ?_ GE140.out | refine Z4l ?_ GE141.out) | exact HB.out))) : w.heap.size ≤ gb152))
                  have n7_ := Aside0.mk ((by rw [hg]; exact (below_size (by repeat (first | (with_reducible first | exact HB.out | apply Z4k | apply Z4i | apply Z4j | refine Z4l ?_ GE140.out | refine Z4l ?_ GE141.out) | exact HB.out))) : w.heap.size ≤ gb152))
                  have n8_ := Aside0.mk ((by rw [hg]; exact Nat.ne_of_lt (blk_lt (g := gb140) (o := .cells #[.int .i64 x141000_2, .slice Ao100 x141001_2.length co100] 24 (0, 0)) (by (with_reducible repeat (first | refine Z4d ?_ _ | refine Z4e ?_ | refine Z4f ?_ _)); exact BK140.out)) : gb140 ≠ gb152))
                  have n9_ := Aside0.mk ((by rw [hg]; exact Nat.ne_of_gt (blk_lt (g := gb140) (o := .cells #[.int .i64 x141000_2, .slice Ao100 x141001_2.length co100] 24 (0, 0)) (by (with_reducible repeat (first | refine Z4d ?_ _ | refine Z4e ?_ | refine Z4f ?_ _)); exact BK140.out)) : gb152 ≠ gb140))
                  have n10_ := Aside0.mk ((by rw [hg]; exact Nat.ne_of_lt (blk_lt (g := gb141) (o := .cells #[.int .i64 x142000_2, u142001] 24 (0, 0)) (by (with_reducible repeat (first | refine Z4d ?_ _ | refine Z4e ?_ | refine Z4f ?_ _)); exact BK141.out)) : gb141 ≠ gb152))
                  have n11_ := Aside0.mk ((by rw [hg]; exact Nat.ne_of_gt (blk_lt (g := gb141) (o := .cells #[.int .i64 x142000_2, u142001] 24 (0, 0)) (by (with_reducible repeat (first | refine Z4d ?_ _ | refine Z4e ?_ | refine Z4f ?_ _)); exact BK141.out)) : gb152 ≠ gb141))
                  clear HO_141001
                  clear HO_142001
                  clear BK140
                  clear BK141
                  clear HB
                  have HO_141001 := n0_
                  have HO_142001 := n1_
                  have BK140 := n2_
                  have BK141 := n3_
                  have HB := n4_
                  have BK152 := n5_
                  have GW152 := n6_
                  have GE152 := n7_
                  have NB140_152 := n8_
                  have NB152_140 := n9_
                  have NB141_152 := n10_
                  have NB152_141 := n11_
                  clear n0_ n1_ n2_ n3_ n4_ n5_ n6_ n7_ n8_ n9_ n10_ n11_
                  clear hb hbox hg
                  refine hK.out _ _ ⟨(Z4r BK140.out 0).trans rfl, (Z4r BK140.out 1).trans rfl, ((HB.out.cell (Z4g w _ hw145_0)).trans hw145_0), ((HB.out.cell (Z4g w _ hw146_0)).trans hw146_0)⟩ (fun hHeld => ?_)
                  clear hK K
                  refine norm_ (a' := ?_) ?_ ?_
                  rotate_left
                  ·
                   show Act.put _ (some 8) _ = _
                   simp only [Act.put, Z4a, Z4b, Z4c, i64_w, i32_w]
                   rfl
                  refine one_ (i := 10) (N := some 56) #[true, true, true, true, true, true, true, true, true, true, true, false, false, false, true, false, false] rfl rfl (one_of HT_.out (by kernel_rfl)) (by decide) (fun K hK => ?_)
                  refine goes_ Try.func12 (by kernel_rfl) rfl #[.agg #[.int .i64 x141000_2, .slice Ao100 x141001_2.length co100], .int .i64 (rd l0 x6_2), .agg #[.int .i64 0, .int .i64 (rd l0 x6_2), .string (⟨#[]⟩ : ByteArray)]] (by rfl) rfl rfl (by (try simp only [List.map_toArray, List.map_cons, List.map_nil]); first | done | rfl | (simp only [List.length_drop, List.length_take]; rfl)) ?_
                  with_reducible refine (window_Put.calls k3 x141000_2 _ _ x141001_2 (rd l0 x6_2) 0 (rd l0 x6_2) (⟨#[]⟩ : ByteArray) t147 t148 t151 _ ?side1 ?side2 A23.out).mono ?_
                  (case side1 => repeat (first | exact (Kd.V_reads' HO_141001.out).2.2 | (with_reducible refine Kd.C_alloc ?_ _) | (with_reducible refine Kd.C_drewN ?_ _) | (with_reducible refine Kd.C_drew ?_)))
                  (case side2 => exact (Kd.V_reads' HO_141001.out).2.1)
                  rintro e w103 ⟨v149, rfl, ho0, hb⟩
                  refine ⟨_, rfl, ?_⟩
                  have n0_ := Aside0.mk (Z4q (by (with_reducible repeat (first | apply Z4o | apply Z4m | apply Z4n)); exact HO_141001.out) hb)
                  have n1_ := Aside0.mk (Z4q (by (with_reducible repeat (first | apply Z4o | apply Z4m | apply Z4n)); exact HO_142001.out) hb)
                  have n2_ := Aside0.mk (Kd.V_lower (Z4p (ok' := fun k_ => k_ ≠ gb140 ∧ k_ ≠ gb141 ∧ k_ ≠ gb152) ho0 (fun k_ hk_ => ⟨(Kd.freshB (g := gb140) (o := .cells #[.int .i64 x141000_2, .slice Ao100 x141001_2.length co100] 24 (0, 0)) (by (with_reducible repeat (first | refine Z4d ?_ _ | refine Z4e ?_ | refine Z4f ?_ _)); exact BK140.out) k_ hk_), (Kd.freshB (g := gb141) (o := .cells #[.int .i64 x142000_2, u142001] 24 (0, 0)) (by (with_reducible repeat (first | refine Z4d ?_ _ | refine Z4e ?_ | refine Z4f ?_ _)); exact BK141.out) k_ hk_), (Kd.freshB (g := gb152) (o := .cells #[.int .i64 0, .slice none 0 0] 24 (0, 0)) (by (with_reducible repeat (first | refine Z4d ?_ _ | refine Z4e ?_ | refine Z4f ?_ _)); exact BK152.out) k_ hk_)⟩)) (below_size (by repeat (first | (with_reducible first | exact HB.out | apply Z4k | apply Z4i | apply Z4j | refine Z4l ?_ GE140.out | refine Z4l ?_ GE141.out | refine Z4l ?_ GE152.out) | exact HB.out))))
                  have n3_ := Aside0.mk (blk_below (g := gb140) (o := .cells #[.int .i64 x141000_2, .slice Ao100 x141001_2.length co100] 24 (0, 0)) (by (with_reducible repeat (first | refine Z4d ?_ _ | refine Z4e ?_ | refine Z4f ?_ _)); exact BK140.out) hb)
                  have n4_ := Aside0.mk (blk_below (g := gb141) (o := .cells #[.int .i64 x142000_2, u142001] 24 (0, 0)) (by (with_reducible repeat (first | refine Z4d ?_ _ | refine Z4e ?_ | refine Z4f ?_ _)); exact BK141.out) hb)
                  have n5_ := Aside0.mk (blk_below (g := gb152) (o := .cells #[.int .i64 0, .slice none 0 0] 24 (0, 0)) (by (with_reducible repeat (first | refine Z4d ?_ _ | refine Z4e ?_ | refine Z4f ?_ _)); exact BK152.out) hb)
                  have n6_ := Aside0.mk (below_step (by repeat (first | (with_reducible first | exact HB.out | apply Z4k | apply Z4i | apply Z4j | refine Z4l ?_ GE140.out | refine Z4l ?_ GE141.out | refine Z4l ?_ GE152.out) | exact HB.out)) hb)
                  clear HO_141001
                  clear HO_142001
                  clear BK140
                  clear BK141
                  clear BK152
                  clear HB
                  have HO_141001 := n0_
                  have HO_142001 := n1_
                  have HO150 := n2_
                  have BK140 := n3_
                  have BK141 := n4_
                  have BK152 := n5_
                  have HB := n6_
                  clear n0_ n1_ n2_ n3_ n4_ n5_ n6_
                  (try clear hb)
                  (try clear hb2)
                  (try clear hk)
                  (try clear hi)
                  (try clear ho0)
                  refine hK.out _ _ ⟨(Z4r BK140.out 0).trans rfl, (Z4r BK140.out 1).trans rfl, ((HB.out.cell (Z4g w _ hw145_0)).trans hw145_0), ((HB.out.cell (Z4g w _ hw146_0)).trans hw146_0)⟩ (fun hHeld => ?_)
                  clear hK K
                  refine norm_ (a' := ?_) ?_ ?_
                  rotate_left
                  ·
                   show Act.put _ (some 56) _ = _
                   simp only [Act.put, Z4a, Z4b, Z4c, i64_w, i32_w]
                   rfl
                  refine pure_ (i := 11) (N := some 45) (v := ?_) (a' := ?_) #[true, true, true, true, true, true, true, true, true, true, true, true, false, false, true, false, false] rfl rfl (any_of HT_.out (by kernel_rfl)) (fun _ _ _ h => h) (Or.inl ⟨by rfl, ?_⟩) ?_ ?_
                  rotate_left
                  ·
                   intro w'
                   go_simp
                   with_reducible rfl
                  rotate_left
                  ·
                   simp only [Act.put, Z4a, Z4b, Z4c, i64_w, i32_w]
                   rfl
                  refine pure_ (i := 12) (N := some 57) (v := ?_) (a' := ?_) #[true, true, true, true, true, true, true, true, true, true, true, true, true, false, true, false, false] rfl rfl (any_of HT_.out (by kernel_rfl)) (fun _ _ _ h => h) (Or.inl ⟨by rfl, ?_⟩) ?_ ?_
                  rotate_left
                  ·
                   intro w'
                   go_simp
                   with_reducible rfl
                  rotate_left
                  ·
                   simp only [Act.put, Z4a, Z4b, Z4c, i64_w, i32_w]
                   rfl
                  refine pure_ (i := 13) (N := some 58) (v := ?_) (a' := ?_) #[true, true, true, true, true, true, true, true, true, true, true, true, true, true, true, false, false] rfl rfl (any_of HT_.out (by kernel_rfl)) (fun _ _ _ h => h) (Or.inl ⟨by rfl, ?_⟩) ?_ ?_
                  rotate_left
                  ·
                   intro w'
                   go_simp
                   with_reducible rfl
                  rotate_left
                  ·
                   simp only [Act.put, Z4a, Z4b, Z4c, i64_w, i32_w]
                   rfl
                  exact norm_ (by simp only [putAll, Act.put, List.setIfInBounds_toArray, List.set_cons_zero, List.set_cons_succ]) (hCont (v149, gb152) _ ⟨hHeld, (by (with_reducible repeat (first | apply Z4o | apply Z4m | apply Z4n)); exact HO150.out), (by (with_reducible repeat (first | apply Z4o | apply Z4m | apply Z4n)); exact Z4p HO_141001.out (fun _ hk => ⟨hk.1.1, ⟨hk.1.2, hk.2⟩⟩)), (by (with_reducible repeat (first | apply Z4o | apply Z4m | apply Z4n)); exact Z4p HO_142001.out (fun _ hk => ⟨hk.1.1, ⟨hk.1.2, hk.2⟩⟩)), (by (with_reducible repeat (first | refine Z4d ?_ _ | refine Z4e ?_ | refine Z4f ?_ _)); exact BK140.out), (by (with_reducible repeat (first | refine Z4d ?_ _ | refine Z4e ?_ | refine Z4f ?_ _)); exact BK141.out), (by (with_reducible repeat (first | refine Z4d ?_ _ | refine Z4e ?_ | refine Z4f ?_ _)); exact BK152.out), GW152.out, GE152.out, NB140_152.out, NB152_140.out, NB141_152.out, NB152_141.out, (by repeat (first | (with_reducible first | exact HB.out | apply Z4k | apply Z4i | apply Z4j | refine Z4l ?_ GE140.out | refine Z4l ?_ GE141.out | refine Z4l ?_ GE152.out) | exact HB.out))⟩)
                rintro ⟨v149, gb152⟩ w104 ⟨hS_, h0_, h1_, h2_, h3_, h4_, h5_, h6_, h7_, h8_, h9_, h10_, h11_, h12_⟩
                have n0_ : Aside0 (Kd.V k42 42 w104 w.heap.size (fun k_ => k_ ≠ gb140 ∧ k_ ≠ gb141 ∧ k_ ≠ gb152) v149 t148) := ⟨h0_⟩
                have n1_ : Aside0 (Kd.V k42 42 w104 w.heap.size (fun k_ => k_ ≠ gb140 ∧ k_ ≠ gb141 ∧ k_ ≠ gb152) (.slice Ao100 x141001_2.length co100) x141001_2) := ⟨h1_⟩
                have n2_ : Aside0 (Kd.V k42 42 w104 w.heap.size (fun k_ => k_ ≠ gb140 ∧ k_ ≠ gb141 ∧ k_ ≠ gb152) u142001 x142001_2) := ⟨h2_⟩
                have n3_ : Aside0 (w104.heap[gb140]? = some (.cells #[.int .i64 x141000_2, .slice Ao100 x141001_2.length co100] 24 (0, 0))) := ⟨h3_⟩
                have n4_ : Aside0 (w104.heap[gb141]? = some (.cells #[.int .i64 x142000_2, u142001] 24 (0, 0))) := ⟨h4_⟩
                have n5_ : Aside0 (w104.heap[gb152]? = some (.cells #[.int .i64 0, .slice none 0 0] 24 (0, 0))) := ⟨h5_⟩
                have n6_ : Aside0 (w.heap.size ≤ gb152) := ⟨h6_⟩
                have n7_ : Aside0 (w.heap.size ≤ gb152) := ⟨h7_⟩
                have n8_ : Aside0 (gb140 ≠ gb152) := ⟨h8_⟩
                have n9_ : Aside0 (gb152 ≠ gb140) := ⟨h9_⟩
                have n10_ : Aside0 (gb141 ≠ gb152) := ⟨h10_⟩
                have n11_ : Aside0 (gb152 ≠ gb141) := ⟨h11_⟩
                have n12_ : Aside0 (Below w.heap.size w w104) := ⟨h12_⟩
                clear HO_141001
                clear HO_142001
                clear BK140
                clear BK141
                clear HB
                clear h0_ h1_ h2_ h3_ h4_ h5_ h6_ h7_ h8_ h9_ h10_ h11_ h12_
                have HO150 := n0_
                have HO_141001 := n1_
                have HO_142001 := n2_
                have BK140 := n3_
                have BK141 := n4_
                have BK152 := n5_
                have GW152 := n6_
                have GE152 := n7_
                have NB140_152 := n8_
                have NB152_140 := n9_
                have NB141_152 := n10_
                have NB152_141 := n11_
                have HB := n12_
                clear n0_ n1_ n2_ n3_ n4_ n5_ n6_ n7_ n8_ n9_ n10_ n11_ n12_
                have hHeld : w104.cell? ⟨gb140, 0, none⟩ = some (.int .i64 x141000_2) ∧ w104.cell? ⟨gb140, 1, none⟩ = some (.slice Ao100 x141001_2.length co100) ∧ w104.cell? (ad145.add (x6_2).toNat) = some (.int .i64 (rd l0 x6_2)) ∧ w104.cell? (ad145.add (x6_2).toNat) = some (.int .i64 (rd l0 x6_2)) := hS_
                obtain ⟨Ao106, co106, eo106⟩ := Kd.V_slice HO150.out
                (first | subst eo106 | (injection eo106 with f1_ f2_ f3_; have f4_ := f1_.symm; have f5_ := f3_.symm; clear f1_ f2_ f3_; subst f4_; subst f5_))
                refine norm_ (a' := ?_) ?_ ?_
                rotate_left
                ·
                 simp only [putAll, Act.put, List.setIfInBounds_toArray, List.set_cons_zero, List.set_cons_succ]
                 rfl
                refine one_ (i := 15) (N := none) #[true, true, true, true, true, true, true, true, true, true, true, true, true, true, true, true, false] rfl rfl (one_of HT_.out (by kernel_rfl)) (by decide) (fun K hK => ?_)
                have hs105 : w104.cell? ⟨gb152, 0, none⟩ = some (.int .i64 0) := (Z4r BK152.out 0).trans rfl
                have hfs105 := blk_frozen BK152.out 0
                have hns105_0 := NB140_152.out
                have hns105_1 := NB141_152.out
                have hms105_0 := NB152_140.out
                have hms105_1 := NB152_141.out
                have hs107 : w104.cell? ⟨gb152, 1, none⟩ = some (.slice none 0 0) := (Z4r BK152.out 1).trans rfl
                have hfs107 := blk_frozen BK152.out 1
                have hns107_0 := NB140_152.out
                have hns107_1 := NB141_152.out
                have hms107_0 := NB152_140.out
                have hms107_1 := NB152_141.out
                refine skip_ (w1 := ?_) (by rfl) rfl ?_ ?_
                rotate_left
                ·
                 go_simp
                 rfl
                refine hK.out _ _ ⟨((cell_far (p := ⟨gb152, _, none⟩) NB140_152.out _).trans (((cell_far (p := ⟨gb152, _, none⟩) NB140_152.out _).trans (hHeld.1)))), ((cell_far (p := ⟨gb152, _, none⟩) NB140_152.out _).trans (((cell_far (p := ⟨gb152, _, none⟩) NB140_152.out _).trans (hHeld.2.1)))), ((cell_far (p := ⟨gb152, _, none⟩) (by first | exact Nat.ne_of_lt (Z4h (by have := Z4g _ _ hw145_0; first | rwa [add_block] at this | exact this) GW152.out) | (rw [add_block]; exact Nat.ne_of_lt (Z4h (by have := Z4g _ _ hw145_0; first | rwa [add_block] at this | exact this) GW152.out)) | (show (Addr.add _ _).block ≠ _; rw [add_block]; exact Nat.ne_of_lt (Z4h (by have := Z4g _ _ hw145_0; first | rwa [add_block] at this | exact this) GW152.out)) | (dsimp only; exact Nat.ne_of_lt (Z4h (by have := Z4g _ _ hw145_0; first | rwa [add_block] at this | exact this) GW152.out))) _).trans (((cell_far (p := ⟨gb152, _, none⟩) (by first | exact Nat.ne_of_lt (Z4h (by have := Z4g _ _ hw145_0; first | rwa [add_block] at this | exact this) GW152.out) | (rw [add_block]; exact Nat.ne_of_lt (Z4h (by have := Z4g _ _ hw145_0; first | rwa [add_block] at this | exact this) GW152.out)) | (show (Addr.add _ _).block ≠ _; rw [add_block]; exact Nat.ne_of_lt (Z4h (by have := Z4g _ _ hw145_0; first | rwa [add_block] at this | exact this) GW152.out)) | (dsimp only; exact Nat.ne_of_lt (Z4h (by have := Z4g _ _ hw145_0; first | rwa [add_block] at this | exact this) GW152.out))) _).trans (hHeld.2.2.1)))), ((cell_far (p := ⟨gb152, _, none⟩) (by first | exact Nat.ne_of_lt (Z4h (by have := Z4g _ _ hw146_0; first | rwa [add_block] at this | exact this) GW152.out) | (rw [add_block]; exact Nat.ne_of_lt (Z4h (by have := Z4g _ _ hw146_0; first | rwa [add_block] at this | exact this) GW152.out)) | (show (Addr.add _ _).block ≠ _; rw [add_block]; exact Nat.ne_of_lt (Z4h (by have := Z4g _ _ hw146_0; first | rwa [add_block] at this | exact this) GW152.out)) | (dsimp only; exact Nat.ne_of_lt (Z4h (by have := Z4g _ _ hw146_0; first | rwa [add_block] at this | exact this) GW152.out))) _).trans (((cell_far (p := ⟨gb152, _, none⟩) (by first | exact Nat.ne_of_lt (Z4h (by have := Z4g _ _ hw146_0; first | rwa [add_block] at this | exact this) GW152.out) | (rw [add_block]; exact Nat.ne_of_lt (Z4h (by have := Z4g _ _ hw146_0; first | rwa [add_block] at this | exact this) GW152.out)) | (show (Addr.add _ _).block ≠ _; rw [add_block]; exact Nat.ne_of_lt (Z4h (by have := Z4g _ _ hw146_0; first | rwa [add_block] at this | exact this) GW152.out)) | (dsimp only; exact Nat.ne_of_lt (Z4h (by have := Z4g _ _ hw146_0; first | rwa [add_block] at this | exact this) GW152.out))) _).trans (hHeld.2.2.2))))⟩ (fun hHeld => ?_)
                clear hK K
                refine pure_ (i := 16) (N := some 9) (v := ?_) (a' := ?_) #[true, true, true, true, true, true, true, true, true, true, true, true, true, true, true, true, true] rfl rfl (any_of HT_.out (by kernel_rfl)) (fun _ _ _ h => h) (Or.inl ⟨by rfl, ?_⟩) ?_ ?_
                rotate_left
                ·
                 intro w'
                 go_simp
                 with_reducible rfl
                rotate_left
                ·
                 simp only [Act.put, Z4a, Z4b, Z4c, i64_w, i32_w]
                 rfl
                refine done_ (done_of HT_.out (by kernel_rfl)) ?_
                have p160 : 0 ≤ ((ji75) : Int) := of_decide_eq_true (by first | (with_reducible assumption) | assumption)
                have q160 : (ji75) < (l0.length : Int) := of_decide_eq_true (by first | (with_reducible assumption) | assumption)
                obtain ⟨ad160, e160, hx160_0⟩ := Kd.at_int HR0.out (ji75) p160 q160
                obtain rfl : ad145 = ad160 := (by injection e160)
                have hn160_0 : ad145.block ≠ gb152 := Nat.ne_of_lt (Z4h (by have := Z4g _ _ hx160_0; first | rwa [add_block] at this | exact this) GW152.out)
                have hn160_1 : ad145.block ≠ gb152 := Nat.ne_of_lt (Z4h (by have := Z4g _ _ hx160_0; first | rwa [add_block] at this | exact this) GW152.out)
                replace hx160_0 := (HB.out.cell (Z4g w _ hx160_0)).trans hx160_0
                replace hx160_0 := (cell_far (p := ⟨gb152, 0, none⟩) (by first | (rw [add_block]; exact hn160_0) | (show (Addr.add _ _).block ≠ _; rw [add_block]; exact hn160_0) | exact hn160_0) (.int .i64 t147)).trans hx160_0
                replace hx160_0 := (cell_far (p := ⟨gb152, 1, none⟩) (by first | (rw [add_block]; exact hn160_1) | (show (Addr.add _ _).block ≠ _; rw [add_block]; exact hn160_1) | exact hn160_1) (.slice Ao106 t148.length co106)).trans hx160_0
                clear hn160_0
                clear hn160_1
                replace p160 := eq_true p160
                replace q160 := eq_true q160
                have hnb108 := NB141_140.out
                have hnc108 := NB140_141.out
                have hnb109 := NB141_152.out
                have hnc109 := NB152_141.out
                have hcz110_0 : w104.cell? ⟨gb141, 0, none⟩ = some (.int .i64 x142000_2) := (Z4r BK141.out 0).trans rfl
                have hcz110_1 : w104.cell? ⟨gb141, 1, none⟩ = some (u142001) := (Z4r BK141.out 1).trans rfl
                have hfz110_0 := blk_frozen BK141.out 0
                have hfz110_1 := blk_frozen BK141.out 1
                obtain ⟨Ao111, co111, eo111⟩ := Kd.V_slice HO_142001.out
                subst eo111
                try go_wp2_with (first | ((with_reducible refine gate_callee (f := 12) rfl ?_); refine goesL_ (some 75) rfl rfl Try.func12 (by kernel_rfl) rfl #[.agg #[.int .i64 x142000_2, .slice Ao111 x142001_2.length co111], .int .i64 (rd l0 (ji75)), .agg #[.int .i64 0, .int .i64 (rd l0 (ji75)), .string (⟨#[]⟩ : ByteArray)]] rfl (by (try simp only [List.map_toArray, List.map_cons, List.map_nil]); first | done | (simp only [hji75]; rfl) | rfl | (simp only [List.length_drop, List.length_take]; rfl)) ?_; (with_reducible refine (window_Put.calls k3 x142000_2 _ _ x142001_2 (rd l0 (ji75)) 0 (rd l0 (ji75)) (⟨#[]⟩ : ByteArray) t161 t162 t165 _ ?side1 ?side2 A78.out).mono ?_); (case side1 => refine (Kd.V_reads' (e := 42) (base := w.heap.size) (ok := fun k_ => (k_ ≠ gb140 ∧ (k_ ≠ gb141 ∧ k_ ≠ gb152))) (n := x142001_2.length) (c := co111) ?_).2.2; exact (by (with_reducible repeat (first | apply Z4o | apply Z4m | apply Z4n)); exact (Z4p (Kd.V_far (p := ⟨gb152, 1, none⟩) (Kd.V_far (p := ⟨gb152, 0, none⟩) (Z4p HO_142001.out (fun k_ hk => (⟨hk, hk.2.2⟩ : _ ∧ k_ ≠ gb152))) (fun _ hk => hk.2) (.int .i64 t147)) (fun _ hk => hk.2) (.slice Ao106 t148.length co106)) (fun _ h_ => h_.1)))); (case side2 => exact (Kd.V_reads' HO_142001.out).2.1); rintro e w112 ⟨v163, rfl, ho0, hb⟩; refine ⟨_, rfl, ?_⟩; have n0_ := Aside0.mk (Z4q (by (with_reducible repeat (first | apply Z4o | apply Z4m | apply Z4n)); exact (Z4p (Kd.V_far (p := ⟨gb152, 1, none⟩) (Kd.V_far (p := ⟨gb152, 0, none⟩) (Z4p HO_141001.out (fun k_ hk => (⟨hk, hk.2.2⟩ : _ ∧ k_ ≠ gb152))) (fun _ hk => hk.2) (.int .i64 t147)) (fun _ hk => hk.2) (.slice Ao106 t148.length co106)) (fun _ h_ => h_.1))) hb); have n1_ := Aside0.mk (Z4q (by (with_reducible repeat (first | apply Z4o | apply Z4m | apply Z4n)); exact (Z4p (Kd.V_far (p := ⟨gb152, 1, none⟩) (Kd.V_far (p := ⟨gb152, 0, none⟩) (Z4p HO_142001.out (fun k_ hk => (⟨hk, hk.2.2⟩ : _ ∧ k_ ≠ gb152))) (fun _ hk => hk.2) (.int .i64 t147)) (fun _ hk => hk.2) (.slice Ao106 t148.length co106)) (fun _ h_ => h_.1))) hb); have n2_ := Aside0.mk (Z4q (by (with_reducible repeat (first | apply Z4o | apply Z4m | apply Z4n)); exact (Z4p (Kd.V_far (p := ⟨gb152, 1, none⟩) (Kd.V_far (p := ⟨gb152, 0, none⟩) (Z4p HO150.out (fun k_ hk => (⟨hk, hk.2.2⟩ : _ ∧ k_ ≠ gb152))) (fun _ hk => hk.2) (.int .i64 t147)) (fun _ hk => hk.2) (.slice Ao106 t148.length co106)) (fun _ h_ => h_.1))) hb); have n3_ := Aside0.mk (Kd.V_lower (Z4p (ok' := fun k_ => k_ ≠ gb140 ∧ k_ ≠ gb141 ∧ k_ ≠ gb152) ho0 (fun k_ hk_ => ⟨(Kd.freshB (g := gb140) (o := .cells #[.int .i64 x141000_2, .slice Ao100 x141001_2.length co100] 24 (0, 0)) (by (with_reducible repeat (first | refine Z4d ?_ _ | refine Z4e ?_ | refine Z4f ?_ _)); refine blk_far ?_ NB140_152.out _; (with_reducible repeat (first | refine Z4d ?_ _ | refine Z4e ?_ | refine Z4f ?_ _)); refine blk_far ?_ NB140_152.out _; (with_reducible repeat (first | refine Z4d ?_ _ | refine Z4e ?_ | refine Z4f ?_ _)); exact BK140.out) k_ hk_), (Kd.freshB (g := gb141) (o := .cells #[.int .i64 x142000_2, .slice Ao111 x142001_2.length co111] 24 (0, 0)) (by (with_reducible repeat (first | refine Z4d ?_ _ | refine Z4e ?_ | refine Z4f ?_ _)); refine blk_far ?_ NB141_152.out _; (with_reducible repeat (first | refine Z4d ?_ _ | refine Z4e ?_ | refine Z4f ?_ _)); refine blk_far ?_ NB141_152.out _; (with_reducible repeat (first | refine Z4d ?_ _ | refine Z4e ?_ | refine Z4f ?_ _)); exact BK141.out) k_ hk_), (Kd.freshB (g := gb152) (o := .cells #[.int .i64 t147, .slice Ao106 t148.length co106] 24 (0, 0)) (by (with_reducible repeat (first | refine Z4d ?_ _ | refine Z4e ?_ | refine Z4f ?_ _)); refine blk_put (cs := #[.int .i64 t147, .slice none 0 0]) ?_ 1 _ rfl; (with_reducible repeat (first | refine Z4d ?_ _ | refine Z4e ?_ | refine Z4f ?_ _)); refine blk_put (cs := #[.int .i64 0, .slice none 0 0]) ?_ 0 _ rfl; (with_reducible repeat (first | refine Z4d ?_ _ | refine Z4e ?_ | refine Z4f ?_ _)); exact BK152.out) k_ hk_)⟩)) (below_size (by repeat (first | (with_reducible first | exact HB.out | apply Z4k | apply Z4i | apply Z4j | refine Z4l ?_ GE140.out | refine Z4l ?_ GE141.out | refine Z4l ?_ GE152.out) | exact HB.out)))); have n4_ := Aside0.mk (blk_below (g := gb140) (o := .cells #[.int .i64 x141000_2, .slice Ao100 x141001_2.length co100] 24 (0, 0)) (by (with_reducible repeat (first | refine Z4d ?_ _ | refine Z4e ?_ | refine Z4f ?_ _)); refine blk_far ?_ NB140_152.out _; (with_reducible repeat (first | refine Z4d ?_ _ | refine Z4e ?_ | refine Z4f ?_ _)); refine blk_far ?_ NB140_152.out _; (with_reducible repeat (first | refine Z4d ?_ _ | refine Z4e ?_ | refine Z4f ?_ _)); exact BK140.out) hb); have n5_ := Aside0.mk (blk_below (g := gb141) (o := .cells #[.int .i64 x142000_2, .slice Ao111 x142001_2.length co111] 24 (0, 0)) (by (with_reducible repeat (first | refine Z4d ?_ _ | refine Z4e ?_ | refine Z4f ?_ _)); refine blk_far ?_ NB141_152.out _; (with_reducible repeat (first | refine Z4d ?_ _ | refine Z4e ?_ | refine Z4f ?_ _)); refine blk_far ?_ NB141_152.out _; (with_reducible repeat (first | refine Z4d ?_ _ | refine Z4e ?_ | refine Z4f ?_ _)); exact BK141.out) hb); have n6_ := Aside0.mk (blk_below (g := gb152) (o := .cells #[.int .i64 t147, .slice Ao106 t148.length co106] 24 (0, 0)) (by (with_reducible repeat (first | refine Z4d ?_ _ | refine Z4e ?_ | refine Z4f ?_ _)); refine blk_put (cs := #[.int .i64 t147, .slice none 0 0]) ?_ 1 _ rfl; (with_reducible repeat (first | refine Z4d ?_ _ | refine Z4e ?_ | refine Z4f ?_ _)); refine blk_put (cs := #[.int .i64 0, .slice none 0 0]) ?_ 0 _ rfl; (with_reducible repeat (first | refine Z4d ?_ _ | refine Z4e ?_ | refine Z4f ?_ _)); exact BK152.out) hb); have n7_ := Aside0.mk (below_step (by repeat (first | (with_reducible first | exact HB.out | apply Z4k | apply Z4i | apply Z4j | refine Z4l ?_ GE140.out | refine Z4l ?_ GE141.out | refine Z4l ?_ GE152.out) | exact HB.out)) hb); clear HO_141001; clear HO_142001; clear HO150; clear BK140; clear BK141; clear BK152; clear HB; have HO_141001 := n0_; have HO_142001 := n1_; have HO150 := n2_; have HO164 := n3_; have BK140 := n4_; have BK141 := n5_; have BK152 := n6_; have HB := n7_; clear n0_ n1_ n2_ n3_ n4_ n5_ n6_ n7_; (try clear hb); (try clear hb2); (try clear hk); (try clear hi); (try clear ho0)) | ((with_reducible refine gate_dst (N := 11) rfl ?_); (try (refine gate_guard (by rfl) ?_; dsimp only)); refine box_event ?hg (N := 11) ?hd (cs := #[.int .i64 0, .slice none 0 0]) (t := 24) ?hr ?_; (case hd => rfl); (case hg => rfl); (case hr => first | (go_simp; done) | (go_simp; rfl)); intro gb166 hg w113 hbox hb; have n0_ := Aside0.mk (Z4q (Kd.V_elderB (by (with_reducible repeat (first | apply Z4o | apply Z4m | apply Z4n)); exact HO_141001.out) gb166 (Nat.le_of_eq hg.symm)) hb); have n1_ := Aside0.mk (Z4q (Kd.V_elderB (by (with_reducible repeat (first | apply Z4o | apply Z4m | apply Z4n)); exact HO_142001.out) gb166 (Nat.le_of_eq hg.symm)) hb); have n2_ := Aside0.mk (Z4q (Kd.V_elderB (by (with_reducible repeat (first | apply Z4o | apply Z4m | apply Z4n)); exact HO150.out) gb166 (Nat.le_of_eq hg.symm)) hb); have n3_ := Aside0.mk (Z4q (Kd.V_elderB (by (with_reducible repeat (first | apply Z4o | apply Z4m | apply Z4n)); exact HO164.out) gb166 (Nat.le_of_eq hg.symm)) hb); have n4_ := Aside0.mk (blk_below (g := gb140) (o := .cells #[.int .i64 x141000_2, .slice Ao100 x141001_2.length co100] 24 (0, 0)) (by (with_reducible repeat (first | refine Z4d ?_ _ | refine Z4e ?_ | refine Z4f ?_ _)); exact BK140.out) hb); have n5_ := Aside0.mk (blk_below (g := gb141) (o := .cells #[.int .i64 x142000_2, .slice Ao111 x142001_2.length co111] 24 (0, 0)) (by (with_reducible repeat (first | refine Z4d ?_ _ | refine Z4e ?_ | refine Z4f ?_ _)); exact BK141.out) hb); have n6_ := Aside0.mk (blk_below (g := gb152) (o := .cells #[.int .i64 t147, .slice Ao106 t148.length co106] 24 (0, 0)) (by (with_reducible repeat (first | refine Z4d ?_ _ | refine Z4e ?_ | refine Z4f ?_ _)); exact BK152.out) hb); have n7_ := Aside0.mk (below_step (by repeat (first | (with_reducible first | exact HB.out | apply Z4k | apply Z4i | apply Z4j | refine Z4l ?_ GE140.out | refine Z4l ?_ GE141.out | refine Z4l ?_ GE152.out) | exact HB.out)) hb); have n8_ := Aside0.mk (hbox); have n9_ := Aside0.mk ((by rw [hg]; exact (below_size (by repeat (first | (with_reducible first | exact HB.out | apply Z4k | apply Z4i | apply Z4j | refine Z4l ?_ GE140.out | refine Z4l ?_ GE141.out | refine Z4l ?_ GE152.out) | exact HB.out))) : w.heap.size ≤ gb166)); have n10_ := Aside0.mk ((by rw [hg]; exact (below_size (by repeat (first | (with_reducible first | exact HB.out | apply Z4k | apply Z4i | apply Z4j | refine Z4l ?_ GE140.out | refine Z4l ?_ GE141.out | refine Z4l ?_ GE152.out) | exact HB.out))) : w.heap.size ≤ gb166)); have n11_ := Aside0.mk ((by rw [hg]; exact Nat.ne_of_lt (blk_lt (g := gb140) (o := .cells #[.int .i64 x141000_2, .slice Ao100 x141001_2.length co100] 24 (0, 0)) (by (with_reducible repeat (first | refine Z4d ?_ _ | refine Z4e ?_ | refine Z4f ?_ _)); exact BK140.out)) : gb140 ≠ gb166)); have n12_ := Aside0.mk ((by rw [hg]; exact Nat.ne_of_gt (blk_lt (g := gb140) (o := .cells #[.int .i64 x141000_2, .slice Ao100 x141001_2.length co100] 24 (0, 0)) (by (with_reducible repeat (first | refine Z4d ?_ _ | refine Z4e ?_ | refine Z4f ?_ _)); exact BK140.out)) : gb166 ≠ gb140)); have n13_ := Aside0.mk ((by rw [hg]; exact Nat.ne_of_lt (blk_lt (g := gb141) (o := .cells #[.int .i64 x142000_2, .slice Ao111 x142001_2.length co111] 24 (0, 0)) (by (with_reducible repeat (first | refine Z4d ?_ _ | refine Z4e ?_ | refine Z4f ?_ _)); exact BK141.out)) : gb141 ≠ gb166)); have n14_ := Aside0.mk ((by rw [hg]; exact Nat.ne_of_gt (blk_lt (g := gb141) (o := .cells #[.int .i64 x142000_2, .slice Ao111 x142001_2.length co111] 24 (0, 0)) (by (with_reducible repeat (first | refine Z4d ?_ _ | refine Z4e ?_ | refine Z4f ?_ _)); exact BK141.out)) : gb166 ≠ gb141)); have n15_ := Aside0.mk ((by rw [hg]; exact Nat.ne_of_lt (blk_lt (g := gb152) (o := .cells #[.int .i64 t147, .slice Ao106 t148.length co106] 24 (0, 0)) (by (with_reducible repeat (first | refine Z4d ?_ _ | refine Z4e ?_ | refine Z4f ?_ _)); exact BK152.out)) : gb152 ≠ gb166)); have n16_ := Aside0.mk ((by rw [hg]; exact Nat.ne_of_gt (blk_lt (g := gb152) (o := .cells #[.int .i64 t147, .slice Ao106 t148.length co106] 24 (0, 0)) (by (with_reducible repeat (first | refine Z4d ?_ _ | refine Z4e ?_ | refine Z4f ?_ _)); exact BK152.out)) : gb166 ≠ gb152)); clear HO_141001; clear HO_142001; clear HO150; clear HO164; clear BK140; clear BK141; clear BK152; clear HB; have HO_141001 := n0_; have HO_142001 := n1_; have HO150 := n2_; have HO164 := n3_; have BK140 := n4_; have BK141 := n5_; have BK152 := n6_; have HB := n7_; have BK166 := n8_; have GW166 := n9_; have GE166 := n10_; have NB140_166 := n11_; have NB166_140 := n12_; have NB141_166 := n13_; have NB166_141 := n14_; have NB152_166 := n15_; have NB166_152 := n16_; clear n0_ n1_ n2_ n3_ n4_ n5_ n6_ n7_ n8_ n9_ n10_ n11_ n12_ n13_ n14_ n15_ n16_; clear hb hbox hg; have hnb114 := NB166_140.out; have hnc114 := NB140_166.out; have hnb115 := NB166_141.out; have hnc115 := NB141_166.out; have hnb116 := NB166_152.out; have hnc116 := NB152_166.out; have hcz117_0 : w113.cell? ⟨gb166, 0, none⟩ = some (.int .i64 0) := (Z4r BK166.out 0).trans rfl; have hcz117_1 : w113.cell? ⟨gb166, 1, none⟩ = some (.slice none 0 0) := (Z4r BK166.out 1).trans rfl; have hfz117_0 := blk_frozen BK166.out 0; have hfz117_1 := blk_frozen BK166.out 1; obtain ⟨Ao118, co118, eo118⟩ := Kd.V_slice HO164.out; subst eo118))
                go_roundg k3
                case measure => have := HJ2.out; have := HK2.out; have := HK3.out; omega
                case rel => exact ⟨(wrap64 (x6_2 + 1)), (x141000_2), (x141001_2), (x142000_2), (x142001_2), (.slice Ao100 x141001_2.length co100), (.slice Ao111 x142001_2.length co111), (by first | rfl | (simp; done) | (simp [*]; done)), H', ⟨by have := HJ2.out; have := HK2.out; have := HK3.out; omega⟩, ⟨by (with_reducible repeat (first | apply Z4o | apply Z4m | apply Z4n)); exact Z4p (Kd.V_far (p := ⟨gb166, 1, none⟩) (Kd.V_far (p := ⟨gb166, 0, none⟩) (Z4p HO_141001.out (fun k_ hk => (⟨hk, hk.2⟩ : _ ∧ k_ ≠ gb166))) (fun _ hk => hk.2) (.int .i64 t161)) (fun _ hk => hk.2) (.slice Ao118 t162.length co118)) (fun _ hk => ⟨hk.1.1.1, hk.1.1.2.1⟩)⟩, ⟨by (with_reducible repeat (first | apply Z4o | apply Z4m | apply Z4n)); exact Z4p (Kd.V_far (p := ⟨gb166, 1, none⟩) (Kd.V_far (p := ⟨gb166, 0, none⟩) (Z4p HO_142001.out (fun k_ hk => (⟨hk, hk.2⟩ : _ ∧ k_ ≠ gb166))) (fun _ hk => hk.2) (.int .i64 t161)) (fun _ hk => hk.2) (.slice Ao118 t162.length co118)) (fun _ hk => ⟨hk.1.1.1, hk.1.1.2.1⟩)⟩, ⟨by (with_reducible repeat (first | refine Z4d ?_ _ | refine Z4e ?_ | refine Z4f ?_ _)); refine blk_far ?_ NB140_166.out _; (with_reducible repeat (first | refine Z4d ?_ _ | refine Z4e ?_ | refine Z4f ?_ _)); refine blk_far ?_ NB140_166.out _; (with_reducible repeat (first | refine Z4d ?_ _ | refine Z4e ?_ | refine Z4f ?_ _)); exact BK140.out⟩, ⟨by (with_reducible repeat (first | refine Z4d ?_ _ | refine Z4e ?_ | refine Z4f ?_ _)); refine blk_far ?_ NB141_166.out _; (with_reducible repeat (first | refine Z4d ?_ _ | refine Z4e ?_ | refine Z4f ?_ _)); refine blk_far ?_ NB141_166.out _; (with_reducible repeat (first | refine Z4d ?_ _ | refine Z4e ?_ | refine Z4f ?_ _)); exact BK141.out⟩, ⟨by repeat (first | (with_reducible first | exact HB.out | apply Z4k | apply Z4i | apply Z4j | refine Z4l ?_ GE140.out | refine Z4l ?_ GE141.out | refine Z4l ?_ GE152.out | refine Z4l ?_ GE166.out) | exact HB.out)⟩⟩
              ·
               rw [if_neg c77] at H
               exact absurd H (by simp)
             ·
              rw [if_neg c76] at H
              exact absurd H (by simp)
           ·
            rw [if_neg c22] at H
            exact absurd H (by simp)
          ·
           rw [if_neg c21] at H
           exact absurd H (by simp)
      ·
       rw [if_neg c12] at H
       have c12b0 : decide (x6_2 < (l0.length : Int)) = false := decide_eq_false c12
       clear c12
       replace H := Option.bind_eq_some_iff.mp H
       obtain ⟨t142, A1190, H⟩ := H
       replace H : (some t142) = some r := H
       have A119 := Aside0.mk A1190
       clear A1190
       obtain rfl := Option.some.inj H
       have hnb120 := NB140_141.out
       have hnc120 := NB141_140.out
       have hcz121_0 : wr.cell? ⟨gb140, 0, none⟩ = some (.int .i64 x141000_2) := (Z4r BK140.out 0).trans rfl
       have hcz121_1 : wr.cell? ⟨gb140, 1, none⟩ = some (u141001) := (Z4r BK140.out 1).trans rfl
       have hfz121_0 := blk_frozen BK140.out 0
       have hfz121_1 := blk_frozen BK140.out 1
       have hcz122_0 : wr.cell? ⟨gb141, 0, none⟩ = some (.int .i64 x142000_2) := (Z4r BK141.out 0).trans rfl
       have hcz122_1 : wr.cell? ⟨gb141, 1, none⟩ = some (u142001) := (Z4r BK141.out 1).trans rfl
       have hfz122_0 := blk_frozen BK141.out 0
       have hfz122_1 := blk_frozen BK141.out 1
       obtain ⟨Ao123, co123, eo123⟩ := Kd.V_slice HO_141001.out
       subst eo123
       obtain ⟨Ao124, co124, eo124⟩ := Kd.V_slice HO_142001.out
       subst eo124
       go_wp2_with (first | ((with_reducible refine gate_callee (f := 14) rfl ?_); refine goesL_ (some 83) rfl rfl Try.func14 (by kernel_rfl) rfl #[.agg #[.int .i64 x141000_2, .slice Ao123 x141001_2.length co123], .agg #[.int .i64 x142000_2, .slice Ao124 x142001_2.length co124]] rfl (by (try simp only [List.map_toArray, List.map_cons, List.map_nil]); first | done | rfl | (simp only [List.length_drop, List.length_take]; rfl)) ?_; (with_reducible refine (colloquyref17_Same.calls k2 x141000_2 _ _ x141001_2 x142000_2 _ _ x142001_2 t142 _ ?side1 ?side2 ?side3 ?side4 A119.out).mono ?_); (case side1 => repeat (first | exact (Kd.V_reads' HO_141001.out).2.2 | (with_reducible refine Kd.C_alloc ?_ _) | (with_reducible refine Kd.C_drewN ?_ _) | (with_reducible refine Kd.C_drew ?_))); (case side2 => exact (Kd.V_reads' HO_141001.out).2.1); (case side3 => repeat (first | exact (Kd.V_reads' HO_142001.out).2.2 | (with_reducible refine Kd.C_alloc ?_ _) | (with_reducible refine Kd.C_drewN ?_ _) | (with_reducible refine Kd.C_drew ?_))); (case side4 => exact (Kd.V_reads' HO_142001.out).2.1); rintro e w125 ⟨rfl, hb⟩; refine ⟨_, rfl, ?_⟩; have n0_ := Aside0.mk (Z4q (by (with_reducible repeat (first | apply Z4o | apply Z4m | apply Z4n)); exact HO_141001.out) hb); have n1_ := Aside0.mk (Z4q (by (with_reducible repeat (first | apply Z4o | apply Z4m | apply Z4n)); exact HO_142001.out) hb); have n2_ := Aside0.mk (blk_below (g := gb140) (o := .cells #[.int .i64 x141000_2, .slice Ao123 x141001_2.length co123] 24 (0, 0)) (by (with_reducible repeat (first | refine Z4d ?_ _ | refine Z4e ?_ | refine Z4f ?_ _)); exact BK140.out) hb); have n3_ := Aside0.mk (blk_below (g := gb141) (o := .cells #[.int .i64 x142000_2, .slice Ao124 x142001_2.length co124] 24 (0, 0)) (by (with_reducible repeat (first | refine Z4d ?_ _ | refine Z4e ?_ | refine Z4f ?_ _)); exact BK141.out) hb); have n4_ := Aside0.mk (below_step (by repeat (first | (with_reducible first | exact HB.out | apply Z4k | apply Z4i | apply Z4j | refine Z4l ?_ GE140.out | refine Z4l ?_ GE141.out) | exact HB.out)) hb); clear HO_141001; clear HO_142001; clear BK140; clear BK141; clear HB; have HO_141001 := n0_; have HO_142001 := n1_; have BK140 := n2_; have BK141 := n3_; have HB := n4_; clear n0_ n1_ n2_ n3_ n4_; (try clear hb); (try clear hb2); (try clear hk); (try clear hi)))
       go_ret
       exact ⟨by first | rfl | (simp [errW_none, errW_some] <;> rfl) | (simp [*, errW_none, errW_some] <;> rfl), by repeat (first | (with_reducible first | exact HB.out | apply Z4k | apply Z4i | apply Z4j | refine Z4l ?_ GE140.out | refine Z4l ?_ GE141.out) | exact HB.out)⟩

/-- THE ONE PURE STATEMENT of colloquylaw17_WindowOrder: yours. -/
def colloquylaw17_WindowOrder.Pure : Prop := ∀ (l0 : List Int), l0.length ≤ maxLen → l0.length * 8 ≤ 140737488351232 → (∀ x ∈ l0, (Lit.int .i64 x).wf = true) → ∃ k, colloquylaw17_WindowOrder.f k l0 = some true
theorem colloquylaw17_WindowOrder.walk (P : colloquylaw17_WindowOrder.Pure) (a0 : Option Addr) (len0 cap0 : Nat) (z0 : List Int) (w : World) (w0 : (a0 = none ∧ len0 = 0 ∧ cap0 = 0 ∧ z0 = []) ∨ ∃ x, a0 = some x ∧ len0 ≤ cap0 ∧ cap0 ≤ maxLen ∧ z0.length = cap0 ∧ (∀ i, i < z0.length → w.cell? (x.add i) = some (.int .i64 (z0.getD i 0))) ∧ ∀ n ∈ z0, (Lit.int .i64 n).wf = true) (y0 : len0 * 8 ≤ 140737488351232) :
 Calls Try.prog 7 #[.slice a0 len0 cap0] w fun e w' => e = .returned (.bool true) ∧ Below w.heap.size w w' := by
 obtain ⟨l0, rfl, hr0, hm0, hw0, hc0⟩ := ReadsInt.ofRowC w0
 obtain ⟨k, h⟩ := P l0 hm0 y0 hw0
 refine (colloquylaw17_WindowOrder.calls k _ _ l0 true w (Kd.C_of_reads (d := (0 : Int)) (h1 := fun _ => rfl) hr0) hc0 h).mono ?_
 rintro e w' ⟨rfl, hd⟩
 exact ⟨rfl, hd⟩

end Go.Proofs.Ytipmodlmmadfbaa.PWindowOrder
