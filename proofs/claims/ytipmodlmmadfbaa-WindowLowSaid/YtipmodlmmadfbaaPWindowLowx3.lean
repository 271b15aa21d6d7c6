-- Printed by a program of this session (xprint.py), which runs the kit's print and takes some contracts from texts of this session.
import Derived.Test.YtipmodlmmadfbaaPWindowLowx0
import Derived.Test.YtipmodlmmadfbaaPWindowLowx1
import Derived.Test.YtipmodlmmadfbaaPWindowLowx2
namespace Go.Proofs.Ytipmodlmmadfbaa.PWindowLow
open Go.RowKit Go.Proofs.YtipmodlmmadfbaaW.PrintWords Go.Proofs.YtipmodlmmadfbaaW.PrintLast Go.Proofs.YtipmodlmmadfbaaW.PrintMore
abbrev Z3d := @blk_drewN
abbrev Z3e := @blk_drew
abbrev Z3f := @blk_alloc
abbrev Z3g := @World.block_lt_of_cell?
abbrev Z3h := @Nat.lt_of_lt_of_le
abbrev Z3i := @pw_below_drewN
abbrev Z3j := @below_drew1
abbrev Z3k := @below_alloc
abbrev Z3l := @below_set
abbrev Z3m := @Kd.V_drewN
abbrev Z3n := @Kd.V_drew
abbrev Z3o := @Kd.V_alloc
abbrev Z3p := @blk_cell
theorem Z3a {α : Type} (l : List α) (i : Nat) (a : α) : l.toArray.setIfInBounds i a = (l.set i a).toArray := List.setIfInBounds_toArray ..
theorem Z3b {α : Type} {x : α} {xs : List α} {a : α} : (x :: xs).set 0 a = a :: xs := rfl
theorem Z3c {α : Type} {x : α} {xs : List α} {n : Nat} {a : α} : (x :: xs).set (n + 1) a = x :: xs.set n a := rfl
attribute [local go_sem] max2_int min2_int max_two min_two max_three min_three max_four min_four   -- for this text's walks alone
set_option linter.unusedVariables false
set_option linter.unusedSimpArgs false

/-! ### colloquylaw17_WindowLow: function 6 -/
mutual
def colloquylaw17_WindowLow.j0 : Nat → List Int → Bool → Bool → Option (Bool)
 | 0, _, _, _ => none
 | k + 1, x0, x3, x20 => if x20 = true then (some x3) else (colloquylaw17_WindowLow.l0 k x0 0 0 ([] : List (S42)))
def colloquylaw17_WindowLow.l0 : Nat → List Int → Int → Int → List (S42) → Option (Bool)
 | 0, _, _, _, _ => none
 | k + 1, x0, x5, x137000, x137001 => if x5 < (x0.length : Int) then (if 0 ≤ x5 then ((window_Put.f k x137000 x137001 (rd x0 x5) 0 0 (⟨#[]⟩ : ByteArray)).bind fun bt138 => (if bt138.2.2 = 0 then (if bt138.1 < x137000 then (some false) else (colloquylaw17_WindowLow.l0 k x0 (wrap64 (x5 + 1)) bt138.1 bt138.2.1)) else (colloquylaw17_WindowLow.l0 k x0 (wrap64 (x5 + 1)) x137000 x137001))) else (none)) else (colloquylaw17_WindowLow.l1 k x0 (x137000 == 0) 0 x137000 x137001)
def colloquylaw17_WindowLow.l1 : Nat → List Int → Bool → Int → Int → List (S42) → Option (Bool)
 | 0, _, _, _, _, _ => none
 | k + 1, x0, x8, x9, x137000, x137001 => if x9 < (x0.length : Int) then (if x8 = true then (colloquylaw17_WindowLow.l1 k x0 true (wrap64 (x9 + 1)) x137000 x137001) else (if 0 ≤ x9 then (colloquylaw17_WindowLow.l1 k x0 ((rd x0 x9) == x137000) (wrap64 (x9 + 1)) x137000 x137001) else (none))) else ((window_Look.f k x137000 x137001 (wrap64 (x137000 + 1))).bind fun bt145 => (if x8 = true then ((window_May.f k x137000 x137001).bind fun t151 => (if t151 = true then (if bt145.2.2.2.2 = 0 then (some true) else (some (x137000 == 1073741824))) else (some false))) else (some false)))
end
def colloquylaw17_WindowLow.f (k : Nat) (l0 : List Int) : Option (Bool) := (colloquylaw17_awake.f k).bind fun t135 => (if t135 = true then (colloquylaw17_WindowLow.j0 k l0 t135 (decide ((l0.length : Int) > 100))) else (colloquylaw17_WindowLow.j0 k l0 t135 true))
theorem colloquylaw17_WindowLow.mono_l : ∀ k, (∀ y0 y1 y2, LeO (colloquylaw17_WindowLow.j0 k y0 y1 y2) (colloquylaw17_WindowLow.j0 (k + 1) y0 y1 y2)) ∧ (∀ y0 y1 y2 y3, LeO (colloquylaw17_WindowLow.l0 k y0 y1 y2 y3) (colloquylaw17_WindowLow.l0 (k + 1) y0 y1 y2 y3)) ∧ (∀ y0 y1 y2 y3 y4, LeO (colloquylaw17_WindowLow.l1 k y0 y1 y2 y3 y4) (colloquylaw17_WindowLow.l1 (k + 1) y0 y1 y2 y3 y4))
 | 0 => ⟨fun _ _ _ r h => by simp [colloquylaw17_WindowLow.j0] at h, fun _ _ _ _ r h => by simp [colloquylaw17_WindowLow.l0] at h, fun _ _ _ _ _ r h => by simp [colloquylaw17_WindowLow.l1] at h⟩
 | k + 1 => by
  obtain ⟨ih0, ih1, ih2⟩ := colloquylaw17_WindowLow.mono_l k
  refine ⟨?_, ?_, ?_⟩
  ·
   intro y0 y1 y2
   unfold colloquylaw17_WindowLow.j0
   repeat' first
   | (with_reducible exact ih0 _ _ _)
   | (with_reducible exact ih1 _ _ _ _)
   | (with_reducible exact ih2 _ _ _ _ _)
   | (with_reducible exact colloquylaw17_awake.mono _)
   | (with_reducible exact window_Look.mono _ _ _ _)
   | (with_reducible exact window_May.mono _ _ _)
   | (with_reducible exact window_Put.mono _ _ _ _ _ _ _)
   | (with_reducible exact LeO.refl _)
   | (with_reducible exact LeO.none _)
   | (with_reducible refine LeO.ite ?_ ?_)
   | (with_reducible refine LeO.bind ?_ (fun _ => ?_))
   | exact ih0 _ _ _
   | exact ih1 _ _ _ _
   | exact ih2 _ _ _ _ _
   | exact colloquylaw17_awake.mono _
   | exact window_Look.mono _ _ _ _
   | exact window_May.mono _ _ _
   | exact window_Put.mono _ _ _ _ _ _ _
   | exact LeO.none _
   | refine LeO.ite ?_ ?_
   | refine LeO.bind ?_ (fun _ => ?_)
  ·
   intro y0 y1 y2 y3
   unfold colloquylaw17_WindowLow.l0
   repeat' first
   | (with_reducible exact ih0 _ _ _)
   | (with_reducible exact ih1 _ _ _ _)
   | (with_reducible exact ih2 _ _ _ _ _)
   | (with_reducible exact colloquylaw17_awake.mono _)
   | (with_reducible exact window_Look.mono _ _ _ _)
   | (with_reducible exact window_May.mono _ _ _)
   | (with_reducible exact window_Put.mono _ _ _ _ _ _ _)
   | (with_reducible exact LeO.refl _)
   | (with_reducible exact LeO.none _)
   | (with_reducible refine LeO.ite ?_ ?_)
   | (with_reducible refine LeO.bind ?_ (fun _ => ?_))
   | exact ih0 _ _ _
   | exact ih1 _ _ _ _
   | exact ih2 _ _ _ _ _
   | exact colloquylaw17_awake.mono _
   | exact window_Look.mono _ _ _ _
   | exact window_May.mono _ _ _
   | exact window_Put.mono _ _ _ _ _ _ _
   | exact LeO.none _
   | refine LeO.ite ?_ ?_
   | refine LeO.bind ?_ (fun _ => ?_)
  ·
   intro y0 y1 y2 y3 y4
   unfold colloquylaw17_WindowLow.l1
   repeat' first
   | (with_reducible exact ih0 _ _ _)
   | (with_reducible exact ih1 _ _ _ _)
   | (with_reducible exact ih2 _ _ _ _ _)
   | (with_reducible exact colloquylaw17_awake.mono _)
   | (with_reducible exact window_Look.mono _ _ _ _)
   | (with_reducible exact window_May.mono _ _ _)
   | (with_reducible exact window_Put.mono _ _ _ _ _ _ _)
   | (with_reducible exact LeO.refl _)
   | (with_reducible exact LeO.none _)
   | (with_reducible refine LeO.ite ?_ ?_)
   | (with_reducible refine LeO.bind ?_ (fun _ => ?_))
   | exact ih0 _ _ _
   | exact ih1 _ _ _ _
   | exact ih2 _ _ _ _ _
   | exact colloquylaw17_awake.mono _
   | exact window_Look.mono _ _ _ _
   | exact window_May.mono _ _ _
   | exact window_Put.mono _ _ _ _ _ _ _
   | exact LeO.none _
   | refine LeO.ite ?_ ?_
   | refine LeO.bind ?_ (fun _ => ?_)
theorem colloquylaw17_WindowLow.mono : ∀ a0 k, LeO (colloquylaw17_WindowLow.f k a0) (colloquylaw17_WindowLow.f (k + 1) a0) := by
 intro a0 k
 obtain ⟨ih0, ih1, ih2⟩ := colloquylaw17_WindowLow.mono_l k
 unfold colloquylaw17_WindowLow.f
 repeat' first
  | (with_reducible exact ih0 _ _ _)
  | (with_reducible exact ih1 _ _ _ _)
  | (with_reducible exact ih2 _ _ _ _ _)
  | (with_reducible exact colloquylaw17_awake.mono _)
  | (with_reducible exact window_Look.mono _ _ _ _)
  | (with_reducible exact window_May.mono _ _ _)
  | (with_reducible exact window_Put.mono _ _ _ _ _ _ _)
  | (with_reducible exact LeO.refl _)
  | (with_reducible exact LeO.none _)
  | (with_reducible refine LeO.ite ?_ ?_)
  | (with_reducible refine LeO.bind ?_ (fun _ => ?_))
  | exact ih0 _ _ _
  | exact ih1 _ _ _ _
  | exact ih2 _ _ _ _ _
  | exact colloquylaw17_awake.mono _
  | exact window_Look.mono _ _ _ _
  | exact window_May.mono _ _ _
  | exact window_Put.mono _ _ _ _ _ _ _
  | exact LeO.none _
  | refine LeO.ite ?_ ?_
  | refine LeO.bind ?_ (fun _ => ?_)
def colloquylaw17_WindowLow.T8 : Bool × List (List Nat × List Nat) := (true, [([], []), ([], []), ([], []), ([1, 2], [1, 2]), ([3], [3]), ([], []), ([0, 4, 5], [0, 4, 5]), ([6], [6]), ([7], [7]), ([7], [7]), ([], []), ([10, 8, 6, 0, 1, 2, 3, 4, 5, 6, 7, 8, 10], [8, 10]), ([9, 11, 0, 1, 2, 3, 4, 5, 6, 7, 8, 9, 10, 11], [9])])
def colloquylaw17_WindowLow.B8 : List Nat := [0, 0, 0, 6, 14, 0, 63, 127, 255, 255, 0, 1535, 4095]
theorem colloquylaw17_WindowLow.tab8 : rtab .any (opsOf Try.f6 8) = colloquylaw17_WindowLow.T8 := by kernel_rfl
theorem colloquylaw17_WindowLow.bits8 : waitsOk colloquylaw17_WindowLow.T8.2 colloquylaw17_WindowLow.B8 = true := by kernel_rfl
def colloquylaw17_WindowLow.T17 : Bool × List (List Nat × List Nat) := (true, [([], []), ([0], [0]), ([1], [1]), ([1], [1]), ([2, 3, 1], [1, 2, 3]), ([4, 1], [1, 4]), ([1], [1]), ([6, 1], [1, 6]), ([5, 7, 1], [1, 5, 7]), ([1, 8], [1, 8]), ([9, 1, 0, 1, 2, 3, 4, 5, 6, 7, 8, 9], [0, 9])])
def colloquylaw17_WindowLow.B17 : List Nat := [0, 1, 3, 3, 15, 31, 3, 67, 255, 511, 1023]
theorem colloquylaw17_WindowLow.tab17 : rtab .any (opsOf Try.f6 17) = colloquylaw17_WindowLow.T17 := by kernel_rfl
theorem colloquylaw17_WindowLow.bits17 : waitsOk colloquylaw17_WindowLow.T17.2 colloquylaw17_WindowLow.B17 = true := by kernel_rfl
set_option maxHeartbeats 8000000 in
set_option maxRecDepth 100000 in
theorem colloquylaw17_WindowLow.calls (k : Nat) (A0 : Option Addr) (c0 : Nat) (l0 : List Int) (r : Bool) (w : World) (hr0 : Kd.C (Kd.int .i64) w A0 l0.length l0) (hc0 : l0.length ≤ c0) (h : colloquylaw17_WindowLow.f k l0 = some r) :
 Calls Try.prog 6 #[.slice A0 l0.length c0] w fun e w' => e = .returned (.bool r) ∧ Below w.heap.size w w' := by
 have hu24 := Try.underlying24
 have hu27 := Try.underlying27
 have HR0 := Aside0.mk hr0
 have HC0 := Aside0.mk hc0
 clear hr0 hc0
 have HB := Aside0.mk (Below.refl w.heap.size w)
 have H : ((colloquylaw17_awake.f k).bind fun t135 => (if t135 = true then (colloquylaw17_WindowLow.j0 k l0 t135 (decide ((l0.length : Int) > 100))) else (colloquylaw17_WindowLow.j0 k l0 t135 true))) = some r := h
 clear h
 replace H := Option.bind_eq_some_iff.mp H
 obtain ⟨t135, A20, H⟩ := H
 replace H : (if t135 = true then (colloquylaw17_WindowLow.j0 k l0 t135 (decide ((l0.length : Int) > 100))) else (colloquylaw17_WindowLow.j0 k l0 t135 true)) = some r := H
 have A2 := Aside0.mk A20
 clear A20
 have HC3 := Aside0.mk H
 clear H
 go_enter Try.func6, Try.ntmps6
 go_upto_region 2 with (first | ((with_reducible refine gate_callee (f := 8) rfl ?_); refine goesL_ (some 13) rfl rfl Try.func8 (by kernel_rfl) rfl #[] rfl (by (try simp only [List.map_toArray, List.map_cons, List.map_nil]); first | done | rfl | (simp only [List.length_drop, List.length_take]; rfl)) ?_; (with_reducible refine (colloquylaw17_awake.calls k  t135 _ A2.out).mono ?_); rintro e w4 ⟨rfl, hb⟩; refine ⟨_, rfl, ?_⟩; have n0_ := Aside0.mk (below_step (by repeat (first | (with_reducible first | exact HB.out | apply Z3k | apply Z3i | apply Z3j) | exact HB.out)) hb); clear HB; have HB := n0_; clear n0_; (try clear hb); (try clear hb2); (try clear hk); (try clear hi)))
 (try simp only [Act.put, List.setIfInBounds_toArray, List.set_cons_zero, List.set_cons_succ])
 go_cut [20] (fun v20 wc => ∃ (kq : Nat) (x20_2 : Bool), v20 = .bool x20_2 ∧ Aside0 (colloquylaw17_WindowLow.j0 kq l0 t135 x20_2 = some r) ∧ Aside0 (kq ≤ k) ∧ Aside0 (Below w.heap.size w wc))
 case first =>
  have H := HC3.out
  clear HC3
  by_cases c5 : t135 = true
  ·
   subst c5
   have H1 : (colloquylaw17_WindowLow.j0 k l0 true (decide ((l0.length : Int) > 100))) = some r := by rw [if_pos rfl] at H; exact H
   clear H
   have H := H1
   clear H1
   have H' := Aside0.mk H
   clear H
   go_wp2
   go_meet
   case rel => exact ⟨_, (decide ((l0.length : Int) > 100)), (by first | rfl | (simp; done) | (simp [*]; done)), H', ⟨by first | omega | exact Nat.le_refl _⟩, ⟨by repeat (first | (with_reducible first | exact HB.out | apply Z3k | apply Z3i | apply Z3j) | exact HB.out)⟩⟩
  ·
   replace c5 := Bool.eq_false_iff.mpr c5
   subst c5
   have H1 : (colloquylaw17_WindowLow.j0 k l0 false true) = some r := by rw [if_neg (show ¬ (false = true) by decide)] at H; exact H
   clear H
   have H := H1
   clear H1
   have H' := Aside0.mk H
   clear H
   go_wp2
   go_meet
   case rel => exact ⟨_, (true), (by first | rfl | (simp; done) | (simp [*]; done)), H', ⟨by first | omega | exact Nat.le_refl _⟩, ⟨by repeat (first | (with_reducible first | exact HB.out | apply Z3k | apply Z3i | apply Z3j) | exact HB.out)⟩⟩
 case rest =>
  clear HC3
  try clear p2
  try clear c5
  obtain ⟨kq, x20_2, rfl, HA, HJ2, HB⟩ := hcut
  cases kq with
  | zero => exact absurd HA.out (by simp [colloquylaw17_WindowLow.j0])
  | succ kj2 =>
   have H := HA.out
   clear HA
   simp only [colloquylaw17_WindowLow.j0] at H
   by_cases c6 : x20_2 = true
   ·
    subst c6
    have H1 : (some t135) = some r := by rw [if_pos rfl] at H; exact H
    clear H
    have H := H1
    clear H1
    obtain rfl := Option.some.inj H
    go_wp2
    go_ret
    exact ⟨by first | rfl | (simp [errW_none, errW_some] <;> rfl) | (simp [*, errW_none, errW_some] <;> rfl), by repeat (first | (with_reducible first | exact HB.out | apply Z3k | apply Z3i | apply Z3j) | exact HB.out)⟩
   ·
    replace c6 := Bool.eq_false_iff.mpr c6
    subst c6
    have H1 : (colloquylaw17_WindowLow.l0 kj2 l0 0 0 ([] : List (S42))) = some r := by rw [if_neg (show ¬ (false = true) by decide)] at H; exact H
    clear H
    have H := H1
    clear H1
    have H' := Aside0.mk H
    clear H
    go_wp2_with (first | ((with_reducible refine gate_dst (N := 4) rfl ?_); (try (refine gate_guard (by rfl) ?_; dsimp only)); refine box_event ?hg (N := 4) ?hd (cs := #[.int .i64 0, .slice none 0 0]) (t := 24) ?hr ?_; (case hd => rfl); (case hg => rfl); (case hr => first | (go_simp; done) | (go_simp; rfl)); intro gb136 hg w7 hbox hb; have n0_ := Aside0.mk (below_step (by repeat (first | (with_reducible first | exact HB.out | apply Z3k | apply Z3i | apply Z3j) | exact HB.out)) hb); have n1_ := Aside0.mk (hbox); have n2_ := Aside0.mk ((by rw [hg]; exact (below_size (by repeat (first | (with_reducible first | exact HB.out | apply Z3k | apply Z3i | apply Z3j) | exact HB.out))) : w.heap.size ≤ gb136)); have n3_ := Aside0.mk ((by rw [hg]; exact (below_size (by repeat (first | (with_reducible first | exact HB.out | apply Z3k | apply Z3i | apply Z3j) | exact HB.out))) : w.heap.size ≤ gb136)); clear HB; have HB := n0_; have BK136 := n1_; have GW136 := n2_; have GE136 := n3_; clear n0_ n1_ n2_ n3_; clear hb hbox hg; have hcz8_0 : w7.cell? ⟨gb136, 0, none⟩ = some (.int .i64 0) := (Z3p BK136.out 0).trans rfl; have hcz8_1 : w7.cell? ⟨gb136, 1, none⟩ = some (.slice none 0 0) := (Z3p BK136.out 1).trans rfl; have hfz8_0 := blk_frozen BK136.out 0; have hfz8_1 := blk_frozen BK136.out 1))
    go_loopg [5] kj2 (fun kq v5 w' => ∃ (x5_2 : Int) (x137000_2 : Int) (x137001_2 : List (S42)) (u137001 : Value), v5 = .int .i64 x5_2 ∧ Aside0 (colloquylaw17_WindowLow.l0 kq l0 x5_2 x137000_2 x137001_2 = some r) ∧ Aside0 (kq ≤ kj2) ∧ Aside0 (Kd.V k42 42 w' w.heap.size (fun k_ => k_ ≠ gb136) u137001 x137001_2) ∧ Aside0 (w'.heap[gb136]? = some (.cells #[.int .i64 x137000_2, u137001] 24 (0, 0))) ∧ Aside0 (Below w.heap.size w w'))
    case atStart => exact ⟨(0), (0), (([] : List (S42))), (.slice none 0 0), (by first | rfl | (simp; done) | (simp [*]; done)), H', ⟨Nat.le_refl _⟩, ⟨by first | exact Kd.V_nil _ _ _ _ _ | exact Kd.R_V (by first | exact Kd.R_nil _ _ _ _ _ | exact Kd.N_nil _ _ _ _ _ | exact Kd.V_nil _ _ _ _ _ | exact Kd.Q_nil _ _ _ _ _ | exact Kd.S_nil _ _ _ _ _)⟩, ⟨by (with_reducible repeat (first | refine Z3d ?_ _ | refine Z3e ?_ | refine Z3f ?_ _)); refine blk_put (cs := #[.int .i64 0, .slice none 0 0]) ?_ 1 _ rfl; (with_reducible repeat (first | refine Z3d ?_ _ | refine Z3e ?_ | refine Z3f ?_ _)); refine blk_put (cs := #[.int .i64 0, .slice none 0 0]) ?_ 0 _ rfl; (with_reducible repeat (first | refine Z3d ?_ _ | refine Z3e ?_ | refine Z3f ?_ _)); exact BK136.out⟩, ⟨by repeat (first | (with_reducible first | exact HB.out | apply Z3k | apply Z3i | apply Z3j | refine Z3l ?_ GE136.out) | exact HB.out)⟩⟩
    case round =>
     clear H'
     try clear p2
     try clear c5
     try clear c6
     try clear c8
     try clear hcz8_0
     try clear hcz8_1
     try clear hfz8_0
     try clear hfz8_1
     try clear p2
     obtain ⟨x5_2, x137000_2, x137001_2, u137001, rfl, HA, HK2, HO_137001, BK136, HB⟩ := hrel
     cases gk with
     | zero => exact absurd HA.out (by simp [colloquylaw17_WindowLow.l0])
     | succ k2 =>
      have H := HA.out
      clear HA
      simp only [colloquylaw17_WindowLow.l0] at H
      by_cases c9 : x5_2 < (l0.length : Int)
      ·
       rw [if_pos c9] at H
       have c9b0 : decide (x5_2 < (l0.length : Int)) = true := decide_eq_true c9
       clear c9
       by_cases c10 : 0 ≤ x5_2
       ·
        rw [if_pos c10] at H
        have c10b0 : decide (0 ≤ x5_2) = true := decide_eq_true c10
        clear c10
        replace H := Option.bind_eq_some_iff.mp H
        obtain ⟨⟨t138, t139, t142⟩, A110, H⟩ := H
        replace H : (if t142 = 0 then (if t138 < x137000_2 then (some false) else (colloquylaw17_WindowLow.l0 k2 l0 (wrap64 (x5_2 + 1)) t138 t139)) else (colloquylaw17_WindowLow.l0 k2 l0 (wrap64 (x5_2 + 1)) x137000_2 x137001_2)) = some r := H
        have A11 := Aside0.mk A110
        clear A110
        by_cases c12 : t142 = 0
        ·
         rw [if_pos c12] at H
         have c12b0 : (t142 == 0) = true := beq_iff_eq.mpr c12
         have c12b1 : (t142 != 0) = false := bne_eq_false_iff_eq.mpr c12
         clear c12
         by_cases c13 : t138 < x137000_2
         ·
          rw [if_pos c13] at H
          have c13b0 : decide (t138 < x137000_2) = true := decide_eq_true c13
          clear c13
          obtain rfl := Option.some.inj H
          obtain ⟨Ao14, co14, eo14⟩ := Kd.V_slice HO_137001.out
          subst eo14
          try go_wp2
          have n0_ := Aside0.mk (Z3n HO_137001.out)
          have n1_ := Aside0.mk (Z3e BK136.out)
          have n2_ := Aside0.mk (Z3j HB.out)
          clear HO_137001
          clear BK136
          clear HB
          have HO_137001 := n0_
          have BK136 := n1_
          have HB := n2_
          clear n0_ n1_ n2_
          have p137 : 0 ≤ (x5_2 : Int) := of_decide_eq_true (by first | (with_reducible assumption) | assumption)
          have q137 : x5_2 < (l0.length : Int) := of_decide_eq_true (by first | (with_reducible assumption) | assumption)
          obtain ⟨ad137, e137, hx137_0⟩ := Kd.at_int HR0.out x5_2 p137 q137
          have hw137_0 := hx137_0
          cases e137
          replace hx137_0 := (HB.out.cell (Z3g w _ hx137_0)).trans hx137_0
          replace p137 := eq_true p137
          replace q137 := eq_true q137
          refine start_ (n := 13) (S := fun w' => w'.cell? ⟨gb136, 0, none⟩ = some (.int .i64 x137000_2) ∧ w'.cell? ⟨gb136, 1, none⟩ = some (.slice Ao14 x137001_2.length co14) ∧ w'.cell? (ad137.add (x5_2).toNat) = some (.int .i64 (rd l0 x5_2))) (ds := []) #[false, false, false, false, false, false, false, false, false, false, false, false, false] (by kernel_rfl) rfl rfl ⟨(Z3p BK136.out 0).trans rfl, (Z3p BK136.out 1).trans rfl, ((HB.out.cell (Z3g w _ hw137_0)).trans hw137_0)⟩ (fun hHeld => ?_); refine with_tabW colloquylaw17_WindowLow.tab8 colloquylaw17_WindowLow.bits8 (fun HT_ HW_ => ?_)
          generalize wr.drew = w15 at HO_137001 BK136 HB hx137_0 hHeld ⊢
          refine pure_ (i := 1) (N := some 31) (v := ?_) (a' := ?_) #[false, true, false, false, false, false, false, false, false, false, false, false, false] rfl rfl (any_of HT_.out (by kernel_rfl)) (fun _ _ _ h => h) (Or.inl ⟨by rfl, ?_⟩) ?_ ?_
          rotate_left
          ·
           intro w'
           go_simp
           with_reducible rfl
          rotate_left
          ·
           simp only [Act.put, Z3a, Z3b, Z3c, i64_w, i32_w]
           rfl
          refine pure_ (i := 2) (N := some 32) (v := ?_) (a' := ?_) #[false, true, true, false, false, false, false, false, false, false, false, false, false] rfl rfl (any_of HT_.out (by kernel_rfl)) (fun _ _ _ h => h) (Or.inl ⟨by rfl, ?_⟩) ?_ ?_
          rotate_left
          ·
           intro w'
           go_simp
           with_reducible rfl
          rotate_left
          ·
           simp only [Act.put, Z3a, Z3b, Z3c, i64_w, i32_w]
           rfl
          refine pure_ (i := 3) (N := some 33) (v := ?_) (a' := ?_) #[false, true, true, true, false, false, false, false, false, false, false, false, false] rfl rfl (any_of HT_.out (by kernel_rfl)) (fun _ _ _ h => h) (Or.inl ⟨by rfl, ?_⟩) ?_ ?_
          rotate_left
          ·
           intro w'
           go_simp
           with_reducible rfl
          rotate_left
          ·
           simp only [Act.put, Z3a, Z3b, Z3c, i64_w, i32_w]
           rfl
          refine pure_ (i := 5) (N := some 35) (v := ?_) (a' := ?_) #[false, true, true, true, false, true, false, false, false, false, false, false, false] rfl rfl (any_of HT_.out (by kernel_rfl)) (fun _ _ _ h => h) (Or.inl ⟨by rfl, ?_⟩) ?_ ?_
          rotate_left
          ·
           intro w'
           go_simp
           with_reducible rfl
          rotate_left
          ·
           simp only [Act.put, Z3a, Z3b, Z3c, i64_w, i32_w]
           rfl
          refine take_ (i := 0) (N := some 30) (v := ?_) (a' := ?_) #[true, true, true, true, false, true, false, false, false, false, false, false, false] rfl rfl (take_ofW HT_.out HW_.out (by kernel_rfl)) (fun _ _ _ h => h) (Or.inl ⟨by rfl, ?_⟩) hHeld ?_ ?_
          rotate_left
          ·
           rintro w' ⟨s0, s1, s2⟩
           go_simp
           with_reducible rfl
          rotate_left
          ·
           simp only [Act.put, Z3a, Z3b, Z3c, i64_w, i32_w]
           rfl
          refine take_ (i := 4) (N := some 34) (v := ?_) (a' := ?_) #[true, true, true, true, true, true, false, false, false, false, false, false, false] rfl rfl (take_ofW HT_.out HW_.out (by kernel_rfl)) (fun _ _ _ h => h) (Or.inl ⟨by rfl, ?_⟩) hHeld ?_ ?_
          rotate_left
          ·
           rintro w' ⟨s0, s1, s2⟩
           go_simp
           with_reducible rfl
          rotate_left
          ·
           simp only [Act.put, Z3a, Z3b, Z3c, i64_w, i32_w]
           rfl
          refine join_ (σ := Value × Nat) 2 #[true, true, true, true, true, true, true, true, true, true, true, false, false] (fun s_ => [(36, .tuple #[.agg #[.int .i64 t138, s_.1], .int .i64 t142]), (6, .pointer (some ⟨s_.2, 0, none⟩)), (29, .tuple #[.agg #[.int .i64 t138, s_.1], .int .i64 t142]), (37, .agg #[.int .i64 t138, s_.1]), (38, .int .i64 t142)]) (fun s_ w' => (w'.cell? ⟨gb136, 0, none⟩ = some (.int .i64 x137000_2) ∧ w'.cell? ⟨gb136, 1, none⟩ = some (.slice Ao14 x137001_2.length co14) ∧ w'.cell? (ad137.add (x5_2).toNat) = some (.int .i64 (rd l0 x5_2))) ∧ (Kd.V k42 42 w' w.heap.size (fun k_ => k_ ≠ gb136 ∧ k_ ≠ s_.2) s_.1 t139) ∧ (Kd.V k42 42 w' w.heap.size (fun k_ => k_ ≠ gb136 ∧ k_ ≠ s_.2) (.slice Ao14 x137001_2.length co14) x137001_2) ∧ (w'.heap[gb136]? = some (.cells #[.int .i64 x137000_2, .slice Ao14 x137001_2.length co14] 24 (0, 0))) ∧ (w'.heap[s_.2]? = some (.cells #[.int .i64 0, .slice none 0 0] 24 (0, 0))) ∧ (w.heap.size ≤ s_.2) ∧ (w.heap.size ≤ s_.2) ∧ (gb136 ≠ s_.2) ∧ (s_.2 ≠ gb136) ∧ (Below w.heap.size w w')) ?_ ?_
          rotate_left
          ·
           intro hCont
           refine two_ (i := 6) (j := 10) (Ni := some 36) (Nj := some 6) #[true, true, true, true, true, true, true, false, false, false, false, false, false] #[true, true, true, true, true, true, false, false, false, false, true, false, false] rfl rfl rfl rfl (two_of HT_.out (by kernel_rfl)) (by decide) (by decide) (fun K hK => ?_) (fun K hK => ?_)
           ·
            skip
            refine goes_ Try.func12 (by kernel_rfl) rfl #[.agg #[.int .i64 x137000_2, .slice Ao14 x137001_2.length co14], .int .i64 (rd l0 x5_2), .agg #[.int .i64 0, .int .i64 0, .string (⟨#[]⟩ : ByteArray)]] (by rfl) rfl rfl (by (try simp only [List.map_toArray, List.map_cons, List.map_nil]); first | done | rfl | (simp only [List.length_drop, List.length_take]; rfl)) ?_
            with_reducible refine (window_Put.calls k2 x137000_2 _ _ x137001_2 (rd l0 x5_2) 0 0 (⟨#[]⟩ : ByteArray) t138 t139 t142 _ ?side1 ?side2 A11.out).mono ?_
            (case side1 => repeat (first | exact (Kd.V_reads' HO_137001.out).2.2 | (with_reducible refine Kd.C_alloc ?_ _) | (with_reducible refine Kd.C_drewN ?_ _) | (with_reducible refine Kd.C_drew ?_)))
            (case side2 => exact (Kd.V_reads' HO_137001.out).2.1)
            rintro e w16 ⟨v140, rfl, ho0, hb⟩
            refine ⟨_, rfl, ?_⟩
            have n0_ := Aside0.mk (Kd.V_below (by (with_reducible repeat (first | apply Z3o | apply Z3m | apply Z3n)); exact HO_137001.out) hb)
            have n1_ := Aside0.mk (Kd.V_lower (Kd.V_mono (ok' := fun k_ => k_ ≠ gb136) ho0 (fun k_ hk_ => (Kd.freshB (g := gb136) (o := .cells #[.int .i64 x137000_2, .slice Ao14 x137001_2.length co14] 24 (0, 0)) (by (with_reducible repeat (first | refine Z3d ?_ _ | refine Z3e ?_ | refine Z3f ?_ _)); exact BK136.out) k_ hk_))) (below_size (by repeat (first | (with_reducible first | exact HB.out | apply Z3k | apply Z3i | apply Z3j | refine Z3l ?_ GE136.out) | exact HB.out))))
            have n2_ := Aside0.mk (blk_below (g := gb136) (o := .cells #[.int .i64 x137000_2, .slice Ao14 x137001_2.length co14] 24 (0, 0)) (by (with_reducible repeat (first | refine Z3d ?_ _ | refine Z3e ?_ | refine Z3f ?_ _)); exact BK136.out) hb)
            have n3_ := Aside0.mk (below_step (by repeat (first | (with_reducible first | exact HB.out | apply Z3k | apply Z3i | apply Z3j | refine Z3l ?_ GE136.out) | exact HB.out)) hb)
            clear HO_137001
            clear BK136
            clear HB
            have HO_137001 := n0_
            have HO141 := n1_
            have BK136 := n2_
            have HB := n3_
            clear n0_ n1_ n2_ n3_
            (try clear hb)
            (try clear hb2)
            (try clear hk)
            (try clear hi)
            (try clear ho0)
            refine hK.out _ _ ⟨(Z3p BK136.out 0).trans rfl, (Z3p BK136.out 1).trans rfl, ((HB.out.cell (Z3g w _ hw137_0)).trans hw137_0)⟩ (fun hHeld => ?_)
            clear hK K
            refine norm_ (a' := ?_) ?_ ?_
            rotate_left
            ·
             show Act.put _ (some 36) _ = _
             simp only [Act.put, Z3a, Z3b, Z3c, i64_w, i32_w]
             rfl
            refine pure_ (i := 7) (N := some 29) (v := ?_) (a' := ?_) #[true, true, true, true, true, true, true, true, false, false, false, false, false] rfl rfl (any_of HT_.out (by kernel_rfl)) (fun _ _ _ h => h) (Or.inl ⟨by rfl, ?_⟩) ?_ ?_
            rotate_left
            ·
             intro w'
             go_simp
             with_reducible rfl
            rotate_left
            ·
             simp only [Act.put, Z3a, Z3b, Z3c, i64_w, i32_w]
             rfl
            refine pure_ (i := 8) (N := some 37) (v := ?_) (a' := ?_) #[true, true, true, true, true, true, true, true, true, false, false, false, false] rfl rfl (any_of HT_.out (by kernel_rfl)) (fun _ _ _ h => h) (Or.inl ⟨by rfl, ?_⟩) ?_ ?_
            rotate_left
            ·
             intro w'
             go_simp
             with_reducible rfl
            rotate_left
            ·
             simp only [Act.put, Z3a, Z3b, Z3c, i64_w, i32_w]
             rfl
            refine pure_ (i := 9) (N := some 38) (v := ?_) (a' := ?_) #[true, true, true, true, true, true, true, true, true, true, false, false, false] rfl rfl (any_of HT_.out (by kernel_rfl)) (fun _ _ _ h => h) (Or.inl ⟨by rfl, ?_⟩) ?_ ?_
            rotate_left
            ·
             intro w'
             go_simp
             with_reducible rfl
            rotate_left
            ·
             simp only [Act.put, Z3a, Z3b, Z3c, i64_w, i32_w]
             rfl
            refine one_ (i := 10) (N := some 6) #[true, true, true, true, true, true, true, true, true, true, true, false, false] rfl rfl (one_of HT_.out (by kernel_rfl)) (by decide) (fun K hK => ?_)
            refine box_step ?hg (N := 6) ?hd (cs := #[.int .i64 0, .slice none 0 0]) (t := 24) ?hr ?_; (case hd => rfl); (case hg => rfl); (case hr => first | (go_simp; done) | (go_simp; rfl))
            intro gb143 hg w17 hbox hb
            have n0_ := Aside0.mk (Kd.V_below (Kd.V_elderB (by (with_reducible repeat (first | apply Z3o | apply Z3m | apply Z3n)); exact HO_137001.out) gb143 (Nat.le_of_eq hg.symm)) hb)
            have n1_ := Aside0.mk (Kd.V_below (Kd.V_elderB (by (with_reducible repeat (first | apply Z3o | apply Z3m | apply Z3n)); exact HO141.out) gb143 (Nat.le_of_eq hg.symm)) hb)
            have n2_ := Aside0.mk (blk_below (g := gb136) (o := .cells #[.int .i64 x137000_2, .slice Ao14 x137001_2.length co14] 24 (0, 0)) (by (with_reducible repeat (first | refine Z3d ?_ _ | refine Z3e ?_ | refine Z3f ?_ _)); exact BK136.out) hb)
            have n3_ := Aside0.mk (below_step (by repeat (first | (with_reducible first | exact HB.out | apply Z3k | apply Z3i | apply Z3j | refine Z3l ?_ GE136.out) | exact HB.out)) hb)
            have n4_ := Aside0.mk (hbox)
            have n5_ := Aside0.mk ((by rw [hg]; exact (below_size (by repeat (first | (with_reducible first | exact HB.out | apply Z3k | apply Z3i | apply Z3j | refine Z3l ?_ GE136.out) | exact HB.out))) : w.heap.size ≤ gb143))
            have n6_ := Aside0.mk ((by rw [hg]; exact (below_size (by repeat (first | (with_reducible first | exact HB.out | apply Z3k | apply Z3i | apply Z3j | refine Z3l ?_ GE136.out) | exact HB.out))) : w.heap.size ≤ gb143))
            have n7_ := Aside0.mk ((by rw [hg]; exact Nat.ne_of_lt (blk_lt (g := gb136) (o := .cells #[.int .i64 x137000_2, .slice Ao14 x137001_2.length co14] 24 (0, 0)) (by (with_reducible repeat (first | refine Z3d ?_ _ | refine Z3e ?_ | refine Z3f ?_ _)); exact BK136.out)) : gb136 ≠ gb143))
            have n8_ := Aside0.mk ((by rw [hg]; exact Nat.ne_of_gt (blk_lt (g := gb136) (o := .cells #[.int .i64 x137000_2, .slice Ao14 x137001_2.length co14] 24 (0, 0)) (by (with_reducible repeat (first | refine Z3d ?_ _ | refine Z3e ?_ | refine Z3f ?_ _)); exact BK136.out)) : gb143 ≠ gb136))
            clear HO_137001
            clear HO141
            clear BK136
            clear HB
            have HO_137001 := n0_
            have HO141 := n1_
            have BK136 := n2_
            have HB := n3_
            have BK143 := n4_
            have GW143 := n5_
            have GE143 := n6_
            have NB136_143 := n7_
            have NB143_136 := n8_
            clear n0_ n1_ n2_ n3_ n4_ n5_ n6_ n7_ n8_
            clear hb hbox hg
            refine hK.out _ _ ⟨(Z3p BK136.out 0).trans rfl, (Z3p BK136.out 1).trans rfl, ((HB.out.cell (Z3g w _ hw137_0)).trans hw137_0)⟩ (fun hHeld => ?_)
            clear hK K
            refine norm_ (a' := ?_) ?_ ?_
            rotate_left
            ·
             show Act.put _ (some 6) _ = _
             simp only [Act.put, Z3a, Z3b, Z3c, i64_w, i32_w]
             rfl
            exact norm_ (by simp only [putAll, Act.put, List.setIfInBounds_toArray, List.set_cons_zero, List.set_cons_succ]) (hCont (v140, gb143) _ ⟨hHeld, (by (with_reducible repeat (first | apply Z3o | apply Z3m | apply Z3n)); exact HO141.out), (by (with_reducible repeat (first | apply Z3o | apply Z3m | apply Z3n)); exact HO_137001.out), (by (with_reducible repeat (first | refine Z3d ?_ _ | refine Z3e ?_ | refine Z3f ?_ _)); exact BK136.out), (by (with_reducible repeat (first | refine Z3d ?_ _ | refine Z3e ?_ | refine Z3f ?_ _)); exact BK143.out), GW143.out, GE143.out, NB136_143.out, NB143_136.out, (by repeat (first | (with_reducible first | exact HB.out | apply Z3k | apply Z3i | apply Z3j | refine Z3l ?_ GE136.out | refine Z3l ?_ GE143.out) | exact HB.out))⟩)
           ·
            skip
            refine box_step ?hg (N := 6) ?hd (cs := #[.int .i64 0, .slice none 0 0]) (t := 24) ?hr ?_; (case hd => rfl); (case hg => rfl); (case hr => first | (go_simp; done) | (go_simp; rfl))
            intro gb143 hg w16 hbox hb
            have n0_ := Aside0.mk (Kd.V_below (Kd.V_elderB (by (with_reducible repeat (first | apply Z3o | apply Z3m | apply Z3n)); exact HO_137001.out) gb143 (Nat.le_of_eq hg.symm)) hb)
            have n1_ := Aside0.mk (blk_below (g := gb136) (o := .cells #[.int .i64 x137000_2, .slice Ao14 x137001_2.length co14] 24 (0, 0)) (by (with_reducible repeat (first | refine Z3d ?_ _ | refine Z3e ?_ | refine Z3f ?_ _)); exact BK136.out) hb)
            have n2_ := Aside0.mk (below_step (by repeat (first | (with_reducible first | exact HB.out | apply Z3k | apply Z3i | apply Z3j | refine Z3l ?_ GE136.out) | exact HB.out)) hb)
            have n3_ := Aside0.mk (hbox)
            have n4_ := Aside0.mk ((by rw [hg]; exact (below_size (by repeat (first | (with_reducible first | exact HB.out | apply Z3k | apply Z3i | apply Z3j | refine Z3l ?_ GE136.out) | exact HB.out))) : w.heap.size ≤ gb143))
            have n5_ := Aside0.mk ((by rw [hg]; exact (below_size (by repeat (first | (with_reducible first | exact HB.out | apply Z3k | apply Z3i | apply Z3j | refine Z3l ?_ GE136.out) | exact HB.out))) : w.heap.size ≤ gb143))
            have n6_ := Aside0.mk ((by rw [hg]; exact Nat.ne_of_lt (blk_lt (g := gb136) (o := .cells #[.int .i64 x137000_2, .slice Ao14 x137001_2.length co14] 24 (0, 0)) (by (with_reducible repeat (first | refine Z3d ?_ _ | refine Z3e ?_ | refine Z3f ?_ _)); exact BK136.out)) : gb136 ≠ gb143))
            have n7_ := Aside0.mk ((by rw [hg]; exact Nat.ne_of_gt (blk_lt (g := gb136) (o := .cells #[.int .i64 x137000_2, .slice Ao14 x137001_2.length co14] 24 (0, 0)) (by (with_reducible repeat (first | refine Z3d ?_ _ | refine Z3e ?_ | refine Z3f ?_ _)); exact BK136.out)) : gb143 ≠ gb136))
            clear HO_137001
            clear BK136
            clear HB
            have HO_137001 := n0_
            have BK136 := n1_
            have HB := n2_
            have BK143 := n3_
            have GW143 := n4_
            have GE143 := n5_
            have NB136_143 := n6_
            have NB143_136 := n7_
            clear n0_ n1_ n2_ n3_ n4_ n5_ n6_ n7_
            clear hb hbox hg
            refine hK.out _ _ ⟨(Z3p BK136.out 0).trans rfl, (Z3p BK136.out 1).trans rfl, ((HB.out.cell (Z3g w _ hw137_0)).trans hw137_0)⟩ (fun hHeld => ?_)
            clear hK K
            refine norm_ (a' := ?_) ?_ ?_
            rotate_left
            ·
             show Act.put _ (some 6) _ = _
             simp only [Act.put, Z3a, Z3b, Z3c, i64_w, i32_w]
             rfl
            refine one_ (i := 6) (N := some 36) #[true, true, true, true, true, true, true, false, false, false, true, false, false] rfl rfl (one_of HT_.out (by kernel_rfl)) (by decide) (fun K hK => ?_)
            refine goes_ Try.func12 (by kernel_rfl) rfl #[.agg #[.int .i64 x137000_2, .slice Ao14 x137001_2.length co14], .int .i64 (rd l0 x5_2), .agg #[.int .i64 0, .int .i64 0, .string (⟨#[]⟩ : ByteArray)]] (by rfl) rfl rfl (by (try simp only [List.map_toArray, List.map_cons, List.map_nil]); first | done | rfl | (simp only [List.length_drop, List.length_take]; rfl)) ?_
            with_reducible refine (window_Put.calls k2 x137000_2 _ _ x137001_2 (rd l0 x5_2) 0 0 (⟨#[]⟩ : ByteArray) t138 t139 t142 _ ?side1 ?side2 A11.out).mono ?_
            (case side1 => repeat (first | exact (Kd.V_reads' HO_137001.out).2.2 | (with_reducible refine Kd.C_alloc ?_ _) | (with_reducible refine Kd.C_drewN ?_ _) | (with_reducible refine Kd.C_drew ?_)))
            (case side2 => exact (Kd.V_reads' HO_137001.out).2.1)
            rintro e w17 ⟨v140, rfl, ho0, hb⟩
            refine ⟨_, rfl, ?_⟩
            have n0_ := Aside0.mk (Kd.V_below (by (with_reducible repeat (first | apply Z3o | apply Z3m | apply Z3n)); exact HO_137001.out) hb)
            have n1_ := Aside0.mk (Kd.V_lower (Kd.V_mono (ok' := fun k_ => k_ ≠ gb136 ∧ k_ ≠ gb143) ho0 (fun k_ hk_ => ⟨(Kd.freshB (g := gb136) (o := .cells #[.int .i64 x137000_2, .slice Ao14 x137001_2.length co14] 24 (0, 0)) (by (with_reducible repeat (first | refine Z3d ?_ _ | refine Z3e ?_ | refine Z3f ?_ _)); exact BK136.out) k_ hk_), (Kd.freshB (g := gb143) (o := .cells #[.int .i64 0, .slice none 0 0] 24 (0, 0)) (by (with_reducible repeat (first | refine Z3d ?_ _ | refine Z3e ?_ | refine Z3f ?_ _)); exact BK143.out) k_ hk_)⟩)) (below_size (by repeat (first | (with_reducible first | exact HB.out | apply Z3k | apply Z3i | apply Z3j | refine Z3l ?_ GE136.out | refine Z3l ?_ GE143.out) | exact HB.out))))
            have n2_ := Aside0.mk (blk_below (g := gb136) (o := .cells #[.int .i64 x137000_2, .slice Ao14 x137001_2.length co14] 24 (0, 0)) (by (with_reducible repeat (first | refine Z3d ?_ _ | refine Z3e ?_ | refine Z3f ?_ _)); exact BK136.out) hb)
            have n3_ := Aside0.mk (blk_below (g := gb143) (o := .cells #[.int .i64 0, .slice none 0 0] 24 (0, 0)) (by (with_reducible repeat (first | refine Z3d ?_ _ | refine Z3e ?_ | refine Z3f ?_ _)); exact BK143.out) hb)
            have n4_ := Aside0.mk (below_step (by repeat (first | (with_reducible first | exact HB.out | apply Z3k | apply Z3i | apply Z3j | refine Z3l ?_ GE136.out | refine Z3l ?_ GE143.out) | exact HB.out)) hb)
            clear HO_137001
            clear BK136
            clear BK143
            clear HB
            have HO_137001 := n0_
            have HO141 := n1_
            have BK136 := n2_
            have BK143 := n3_
            have HB := n4_
            clear n0_ n1_ n2_ n3_ n4_
            (try clear hb)
            (try clear hb2)
            (try clear hk)
            (try clear hi)
            (try clear ho0)
            refine hK.out _ _ ⟨(Z3p BK136.out 0).trans rfl, (Z3p BK136.out 1).trans rfl, ((HB.out.cell (Z3g w _ hw137_0)).trans hw137_0)⟩ (fun hHeld => ?_)
            clear hK K
            refine norm_ (a' := ?_) ?_ ?_
            rotate_left
            ·
             show Act.put _ (some 36) _ = _
             simp only [Act.put, Z3a, Z3b, Z3c, i64_w, i32_w]
             rfl
            refine pure_ (i := 7) (N := some 29) (v := ?_) (a' := ?_) #[true, true, true, true, true, true, true, true, false, false, true, false, false] rfl rfl (any_of HT_.out (by kernel_rfl)) (fun _ _ _ h => h) (Or.inl ⟨by rfl, ?_⟩) ?_ ?_
            rotate_left
            ·
             intro w'
             go_simp
             with_reducible rfl
            rotate_left
            ·
             simp only [Act.put, Z3a, Z3b, Z3c, i64_w, i32_w]
             rfl
            refine pure_ (i := 8) (N := some 37) (v := ?_) (a' := ?_) #[true, true, true, true, true, true, true, true, true, false, true, false, false] rfl rfl (any_of HT_.out (by kernel_rfl)) (fun _ _ _ h => h) (Or.inl ⟨by rfl, ?_⟩) ?_ ?_
            rotate_left
            ·
             intro w'
             go_simp
             with_reducible rfl
            rotate_left
            ·
             simp only [Act.put, Z3a, Z3b, Z3c, i64_w, i32_w]
             rfl
            refine pure_ (i := 9) (N := some 38) (v := ?_) (a' := ?_) #[true, true, true, true, true, true, true, true, true, true, true, false, false] rfl rfl (any_of HT_.out (by kernel_rfl)) (fun _ _ _ h => h) (Or.inl ⟨by rfl, ?_⟩) ?_ ?_
            rotate_left
            ·
             intro w'
             go_simp
             with_reducible rfl
            rotate_left
            ·
             simp only [Act.put, Z3a, Z3b, Z3c, i64_w, i32_w]
             rfl
            exact norm_ (by simp only [putAll, Act.put, List.setIfInBounds_toArray, List.set_cons_zero, List.set_cons_succ]) (hCont (v140, gb143) _ ⟨hHeld, (by (with_reducible repeat (first | apply Z3o | apply Z3m | apply Z3n)); exact HO141.out), (by (with_reducible repeat (first | apply Z3o | apply Z3m | apply Z3n)); exact HO_137001.out), (by (with_reducible repeat (first | refine Z3d ?_ _ | refine Z3e ?_ | refine Z3f ?_ _)); exact BK136.out), (by (with_reducible repeat (first | refine Z3d ?_ _ | refine Z3e ?_ | refine Z3f ?_ _)); exact BK143.out), GW143.out, GE143.out, NB136_143.out, NB143_136.out, (by repeat (first | (with_reducible first | exact HB.out | apply Z3k | apply Z3i | apply Z3j | refine Z3l ?_ GE136.out | refine Z3l ?_ GE143.out) | exact HB.out))⟩)
          rintro ⟨v140, gb143⟩ w18 ⟨hS_, h0_, h1_, h2_, h3_, h4_, h5_, h6_, h7_, h8_⟩
          have n0_ : Aside0 (Kd.V k42 42 w18 w.heap.size (fun k_ => k_ ≠ gb136 ∧ k_ ≠ gb143) v140 t139) := ⟨h0_⟩
          have n1_ : Aside0 (Kd.V k42 42 w18 w.heap.size (fun k_ => k_ ≠ gb136 ∧ k_ ≠ gb143) (.slice Ao14 x137001_2.length co14) x137001_2) := ⟨h1_⟩
          have n2_ : Aside0 (w18.heap[gb136]? = some (.cells #[.int .i64 x137000_2, .slice Ao14 x137001_2.length co14] 24 (0, 0))) := ⟨h2_⟩
          have n3_ : Aside0 (w18.heap[gb143]? = some (.cells #[.int .i64 0, .slice none 0 0] 24 (0, 0))) := ⟨h3_⟩
          have n4_ : Aside0 (w.heap.size ≤ gb143) := ⟨h4_⟩
          have n5_ : Aside0 (w.heap.size ≤ gb143) := ⟨h5_⟩
          have n6_ : Aside0 (gb136 ≠ gb143) := ⟨h6_⟩
          have n7_ : Aside0 (gb143 ≠ gb136) := ⟨h7_⟩
          have n8_ : Aside0 (Below w.heap.size w w18) := ⟨h8_⟩
          clear HO_137001
          clear BK136
          clear HB
          clear h0_ h1_ h2_ h3_ h4_ h5_ h6_ h7_ h8_
          have HO141 := n0_
          have HO_137001 := n1_
          have BK136 := n2_
          have BK143 := n3_
          have GW143 := n4_
          have GE143 := n5_
          have NB136_143 := n6_
          have NB143_136 := n7_
          have HB := n8_
          clear n0_ n1_ n2_ n3_ n4_ n5_ n6_ n7_ n8_
          have hHeld : w18.cell? ⟨gb136, 0, none⟩ = some (.int .i64 x137000_2) ∧ w18.cell? ⟨gb136, 1, none⟩ = some (.slice Ao14 x137001_2.length co14) ∧ w18.cell? (ad137.add (x5_2).toNat) = some (.int .i64 (rd l0 x5_2)) := hS_
          obtain ⟨Ao20, co20, eo20⟩ := Kd.V_slice HO141.out
          (first | subst eo20 | (injection eo20 with f1_ f2_ f3_; have f4_ := f1_.symm; have f5_ := f3_.symm; clear f1_ f2_ f3_; subst f4_; subst f5_))
          refine norm_ (a' := ?_) ?_ ?_
          rotate_left
          ·
           simp only [putAll, Act.put, List.setIfInBounds_toArray, List.set_cons_zero, List.set_cons_succ]
           rfl
          refine one_ (i := 11) (N := none) #[true, true, true, true, true, true, true, true, true, true, true, true, false] rfl rfl (one_of HT_.out (by kernel_rfl)) (by decide) (fun K hK => ?_)
          have hs19 : w18.cell? ⟨gb143, 0, none⟩ = some (.int .i64 0) := (Z3p BK143.out 0).trans rfl
          have hfs19 := blk_frozen BK143.out 0
          have hns19_0 := NB136_143.out
          have hms19_0 := NB143_136.out
          have hs21 : w18.cell? ⟨gb143, 1, none⟩ = some (.slice none 0 0) := (Z3p BK143.out 1).trans rfl
          have hfs21 := blk_frozen BK143.out 1
          have hns21_0 := NB136_143.out
          have hms21_0 := NB143_136.out
          refine skip_ (w1 := ?_) (by rfl) rfl ?_ ?_
          rotate_left
          ·
           go_simp
           rfl
          refine hK.out _ _ ⟨((cell_far (p := ⟨gb143, _, none⟩) NB136_143.out _).trans (((cell_far (p := ⟨gb143, _, none⟩) NB136_143.out _).trans (hHeld.1)))), ((cell_far (p := ⟨gb143, _, none⟩) NB136_143.out _).trans (((cell_far (p := ⟨gb143, _, none⟩) NB136_143.out _).trans (hHeld.2.1)))), ((cell_far (p := ⟨gb143, _, none⟩) (by first | exact Nat.ne_of_lt (Z3h (by have := Z3g _ _ hw137_0; first | rwa [add_block] at this | exact this) GW143.out) | (rw [add_block]; exact Nat.ne_of_lt (Z3h (by have := Z3g _ _ hw137_0; first | rwa [add_block] at this | exact this) GW143.out)) | (show (Addr.add _ _).block ≠ _; rw [add_block]; exact Nat.ne_of_lt (Z3h (by have := Z3g _ _ hw137_0; first | rwa [add_block] at this | exact this) GW143.out)) | (dsimp only; exact Nat.ne_of_lt (Z3h (by have := Z3g _ _ hw137_0; first | rwa [add_block] at this | exact this) GW143.out))) _).trans (((cell_far (p := ⟨gb143, _, none⟩) (by first | exact Nat.ne_of_lt (Z3h (by have := Z3g _ _ hw137_0; first | rwa [add_block] at this | exact this) GW143.out) | (rw [add_block]; exact Nat.ne_of_lt (Z3h (by have := Z3g _ _ hw137_0; first | rwa [add_block] at this | exact this) GW143.out)) | (show (Addr.add _ _).block ≠ _; rw [add_block]; exact Nat.ne_of_lt (Z3h (by have := Z3g _ _ hw137_0; first | rwa [add_block] at this | exact this) GW143.out)) | (dsimp only; exact Nat.ne_of_lt (Z3h (by have := Z3g _ _ hw137_0; first | rwa [add_block] at this | exact this) GW143.out))) _).trans (hHeld.2.2))))⟩ (fun hHeld => ?_)
          clear hK K
          refine pure_ (i := 12) (N := some 7) (v := ?_) (a' := ?_) #[true, true, true, true, true, true, true, true, true, true, true, true, true] rfl rfl (any_of HT_.out (by kernel_rfl)) (fun _ _ _ h => h) (Or.inl ⟨by rfl, ?_⟩) ?_ ?_
          rotate_left
          ·
           intro w'
           go_simp
           with_reducible rfl
          rotate_left
          ·
           simp only [Act.put, Z3a, Z3b, Z3c, i64_w, i32_w]
           rfl
          refine done_ (done_of HT_.out (by kernel_rfl)) ?_
          have hnb22 := NB143_136.out
          have hnc22 := NB136_143.out
          have hcz23_0 : w18.cell? ⟨gb143, 0, none⟩ = some (.int .i64 0) := (Z3p BK143.out 0).trans rfl
          have hcz23_1 : w18.cell? ⟨gb143, 1, none⟩ = some (.slice none 0 0) := (Z3p BK143.out 1).trans rfl
          have hfz23_0 := blk_frozen BK143.out 0
          have hfz23_1 := blk_frozen BK143.out 1
          have hcz24_0 : w18.cell? ⟨gb136, 0, none⟩ = some (.int .i64 x137000_2) := (Z3p BK136.out 0).trans rfl
          have hcz24_1 : w18.cell? ⟨gb136, 1, none⟩ = some (.slice Ao14 x137001_2.length co14) := (Z3p BK136.out 1).trans rfl
          have hfz24_0 := blk_frozen BK136.out 0
          have hfz24_1 := blk_frozen BK136.out 1
          try go_wp2
          go_ret
          exact ⟨by first | rfl | (simp [errW_none, errW_some] <;> rfl) | (simp [*, errW_none, errW_some] <;> rfl), by repeat (first | (with_reducible first | exact HB.out | apply Z3k | apply Z3i | apply Z3j | refine Z3l ?_ GE136.out | refine Z3l ?_ GE143.out) | exact HB.out)⟩
         ·
          rw [if_neg c13] at H
          have c13b0 : decide (t138 < x137000_2) = false := decide_eq_false c13
          clear c13
          have H' := Aside0.mk H
          clear H
          obtain ⟨Ao25, co25, eo25⟩ := Kd.V_slice HO_137001.out
          subst eo25
          try go_wp2
          have n0_ := Aside0.mk (Z3n HO_137001.out)
          have n1_ := Aside0.mk (Z3e BK136.out)
          have n2_ := Aside0.mk (Z3j HB.out)
          clear HO_137001
          clear BK136
          clear HB
          have HO_137001 := n0_
          have BK136 := n1_
          have HB := n2_
          clear n0_ n1_ n2_
          have p137 : 0 ≤ (x5_2 : Int) := of_decide_eq_true (by first | (with_reducible assumption) | assumption)
          have q137 : x5_2 < (l0.length : Int) := of_decide_eq_true (by first | (with_reducible assumption) | assumption)
          obtain ⟨ad137, e137, hx137_0⟩ := Kd.at_int HR0.out x5_2 p137 q137
          have hw137_0 := hx137_0
          cases e137
          replace hx137_0 := (HB.out.cell (Z3g w _ hx137_0)).trans hx137_0
          replace p137 := eq_true p137
          replace q137 := eq_true q137
          refine start_ (n := 13) (S := fun w' => w'.cell? ⟨gb136, 0, none⟩ = some (.int .i64 x137000_2) ∧ w'.cell? ⟨gb136, 1, none⟩ = some (.slice Ao25 x137001_2.length co25) ∧ w'.cell? (ad137.add (x5_2).toNat) = some (.int .i64 (rd l0 x5_2))) (ds := []) #[false, false, false, false, false, false, false, false, false, false, false, false, false] (by kernel_rfl) rfl rfl ⟨(Z3p BK136.out 0).trans rfl, (Z3p BK136.out 1).trans rfl, ((HB.out.cell (Z3g w _ hw137_0)).trans hw137_0)⟩ (fun hHeld => ?_); refine with_tabW colloquylaw17_WindowLow.tab8 colloquylaw17_WindowLow.bits8 (fun HT_ HW_ => ?_)
          generalize wr.drew = w26 at HO_137001 BK136 HB hx137_0 hHeld ⊢
          refine pure_ (i := 1) (N := some 31) (v := ?_) (a' := ?_) #[false, true, false, false, false, false, false, false, false, false, false, false, false] rfl rfl (any_of HT_.out (by kernel_rfl)) (fun _ _ _ h => h) (Or.inl ⟨by rfl, ?_⟩) ?_ ?_
          rotate_left
          ·
           intro w'
           go_simp
           with_reducible rfl
          rotate_left
          ·
           simp only [Act.put, Z3a, Z3b, Z3c, i64_w, i32_w]
           rfl
          refine pure_ (i := 2) (N := some 32) (v := ?_) (a' := ?_) #[false, true, true, false, false, false, false, false, false, false, false, false, false] rfl rfl (any_of HT_.out (by kernel_rfl)) (fun _ _ _ h => h) (Or.inl ⟨by rfl, ?_⟩) ?_ ?_
          rotate_left
          ·
           intro w'
           go_simp
           with_reducible rfl
          rotate_left
          ·
           simp only [Act.put, Z3a, Z3b, Z3c, i64_w, i32_w]
           rfl
          refine pure_ (i := 3) (N := some 33) (v := ?_) (a' := ?_) #[false, true, true, true, false, false, false, false, false, false, false, false, false] rfl rfl (any_of HT_.out (by kernel_rfl)) (fun _ _ _ h => h) (Or.inl ⟨by rfl, ?_⟩) ?_ ?_
          rotate_left
          ·
           intro w'
           go_simp
           with_reducible rfl
          rotate_left
          ·
           simp only [Act.put, Z3a, Z3b, Z3c, i64_w, i32_w]
           rfl
          refine pure_ (i := 5) (N := some 35) (v := ?_) (a' := ?_) #[false, true, true, true, false, true, false, false, false, false, false, false, false] rfl rfl (any_of HT_.out (by kernel_rfl)) (fun _ _ _ h => h) (Or.inl ⟨by rfl, ?_⟩) ?_ ?_
          rotate_left
          ·
           intro w'
           go_simp
           with_reducible rfl
          rotate_left
          ·
           simp only [Act.put, Z3a, Z3b, Z3c, i64_w, i32_w]
           rfl
          refine take_ (i := 0) (N := some 30) (v := ?_) (a' := ?_) #[true, true, true, true, false, true, false, false, false, false, false, false, false] rfl rfl (take_ofW HT_.out HW_.out (by kernel_rfl)) (fun _ _ _ h => h) (Or.inl ⟨by rfl, ?_⟩) hHeld ?_ ?_
          rotate_left
          ·
           rintro w' ⟨s0, s1, s2⟩
           go_simp
           with_reducible rfl
          rotate_left
          ·
           simp only [Act.put, Z3a, Z3b, Z3c, i64_w, i32_w]
           rfl
          refine take_ (i := 4) (N := some 34) (v := ?_) (a' := ?_) #[true, true, true, true, true, true, false, false, false, false, false, false, false] rfl rfl (take_ofW HT_.out HW_.out (by kernel_rfl)) (fun _ _ _ h => h) (Or.inl ⟨by rfl, ?_⟩) hHeld ?_ ?_
          rotate_left
          ·
           rintro w' ⟨s0, s1, s2⟩
           go_simp
           with_reducible rfl
          rotate_left
          ·
           simp only [Act.put, Z3a, Z3b, Z3c, i64_w, i32_w]
           rfl
          refine join_ (σ := Value × Nat) 2 #[true, true, true, true, true, true, true, true, true, true, true, false, false] (fun s_ => [(36, .tuple #[.agg #[.int .i64 t138, s_.1], .int .i64 t142]), (6, .pointer (some ⟨s_.2, 0, none⟩)), (29, .tuple #[.agg #[.int .i64 t138, s_.1], .int .i64 t142]), (37, .agg #[.int .i64 t138, s_.1]), (38, .int .i64 t142)]) (fun s_ w' => (w'.cell? ⟨gb136, 0, none⟩ = some (.int .i64 x137000_2) ∧ w'.cell? ⟨gb136, 1, none⟩ = some (.slice Ao25 x137001_2.length co25) ∧ w'.cell? (ad137.add (x5_2).toNat) = some (.int .i64 (rd l0 x5_2))) ∧ (Kd.V k42 42 w' w.heap.size (fun k_ => k_ ≠ gb136 ∧ k_ ≠ s_.2) s_.1 t139) ∧ (Kd.V k42 42 w' w.heap.size (fun k_ => k_ ≠ gb136 ∧ k_ ≠ s_.2) (.slice Ao25 x137001_2.length co25) x137001_2) ∧ (w'.heap[gb136]? = some (.cells #[.int .i64 x137000_2, .slice Ao25 x137001_2.length co25] 24 (0, 0))) ∧ (w'.heap[s_.2]? = some (.cells #[.int .i64 0, .slice none 0 0] 24 (0, 0))) ∧ (w.heap.size ≤ s_.2) ∧ (w.heap.size ≤ s_.2) ∧ (gb136 ≠ s_.2) ∧ (s_.2 ≠ gb136) ∧ (Below w.heap.size w w')) ?_ ?_
          rotate_left
          ·
           intro hCont
           refine two_ (i := 6) (j := 10) (Ni := some 36) (Nj := some 6) #[true, true, true, true, true, true, true, false, false, false, false, false, false] #[true, true, true, true, true, true, false, false, false, false, true, false, false] rfl rfl rfl rfl (two_of HT_.out (by kernel_rfl)) (by decide) (by decide) (fun K hK => ?_) (fun K hK => ?_)
           ·
            skip
            refine goes_ Try.func12 (by kernel_rfl) rfl #[.agg #[.int .i64 x137000_2, .slice Ao25 x137001_2.length co25], .int .i64 (rd l0 x5_2), .agg #[.int .i64 0, .int .i64 0, .string (⟨#[]⟩ : ByteArray)]] (by rfl) rfl rfl (by (try simp only [List.map_toArray, List.map_cons, List.map_nil]); first | done | rfl | (simp only [List.length_drop, List.length_take]; rfl)) ?_
            with_reducible refine (window_Put.calls k2 x137000_2 _ _ x137001_2 (rd l0 x5_2) 0 0 (⟨#[]⟩ : ByteArray) t138 t139 t142 _ ?side1 ?side2 A11.out).mono ?_
            (case side1 => repeat (first | exact (Kd.V_reads' HO_137001.out).2.2 | (with_reducible refine Kd.C_alloc ?_ _) | (with_reducible refine Kd.C_drewN ?_ _) | (with_reducible refine Kd.C_drew ?_)))
            (case side2 => exact (Kd.V_reads' HO_137001.out).2.1)
            rintro e w27 ⟨v140, rfl, ho0, hb⟩
            refine ⟨_, rfl, ?_⟩
            have n0_ := Aside0.mk (Kd.V_below (by (with_reducible repeat (first | apply Z3o | apply Z3m | apply Z3n)); exact HO_137001.out) hb)
            have n1_ := Aside0.mk (Kd.V_lower (Kd.V_mono (ok' := fun k_ => k_ ≠ gb136) ho0 (fun k_ hk_ => (Kd.freshB (g := gb136) (o := .cells #[.int .i64 x137000_2, .slice Ao25 x137001_2.length co25] 24 (0, 0)) (by (with_reducible repeat (first | refine Z3d ?_ _ | refine Z3e ?_ | refine Z3f ?_ _)); exact BK136.out) k_ hk_))) (below_size (by repeat (first | (with_reducible first | exact HB.out | apply Z3k | apply Z3i | apply Z3j | refine Z3l ?_ GE136.out) | exact HB.out))))
            have n2_ := Aside0.mk (blk_below (g := gb136) (o := .cells #[.int .i64 x137000_2, .slice Ao25 x137001_2.length co25] 24 (0, 0)) (by (with_reducible repeat (first | refine Z3d ?_ _ | refine Z3e ?_ | refine Z3f ?_ _)); exact BK136.out) hb)
            have n3_ := Aside0.mk (below_step (by repeat (first | (with_reducible first | exact HB.out | apply Z3k | apply Z3i | apply Z3j | refine Z3l ?_ GE136.out) | exact HB.out)) hb)
            clear HO_137001
            clear BK136
            clear HB
            have HO_137001 := n0_
            have HO141 := n1_
            have BK136 := n2_
            have HB := n3_
            clear n0_ n1_ n2_ n3_
            (try clear hb)
            (try clear hb2)
            (try clear hk)
            (try clear hi)
            (try clear ho0)
            refine hK.out _ _ ⟨(Z3p BK136.out 0).trans rfl, (Z3p BK136.out 1).trans rfl, ((HB.out.cell (Z3g w _ hw137_0)).trans hw137_0)⟩ (fun hHeld => ?_)
            clear hK K
            refine norm_ (a' := ?_) ?_ ?_
            rotate_left
            ·
             show Act.put _ (some 36) _ = _
             simp only [Act.put, Z3a, Z3b, Z3c, i64_w, i32_w]
             rfl
            refine pure_ (i := 7) (N := some 29) (v := ?_) (a' := ?_) #[true, true, true, true, true, true, true, true, false, false, false, false, false] rfl rfl (any_of HT_.out (by kernel_rfl)) (fun _ _ _ h => h) (Or.inl ⟨by rfl, ?_⟩) ?_ ?_
            rotate_left
            ·
             intro w'
             go_simp
             with_reducible rfl
            rotate_left
            ·
             simp only [Act.put, Z3a, Z3b, Z3c, i64_w, i32_w]
             rfl
            refine pure_ (i := 8) (N := some 37) (v := ?_) (a' := ?_) #[true, true, true, true, true, true, true, true, true, false, false, false, false] rfl rfl (any_of HT_.out (by kernel_rfl)) (fun _ _ _ h => h) (Or.inl ⟨by rfl, ?_⟩) ?_ ?_
            rotate_left
            ·
             intro w'
             go_simp
             with_reducible rfl
            rotate_left
            ·
             simp only [Act.put, Z3a, Z3b, Z3c, i64_w, i32_w]
             rfl
            refine pure_ (i := 9) (N := some 38) (v := ?_) (a' := ?_) #[true, true, true, true, true, true, true, true, true, true, false, false, false] rfl rfl (any_of HT_.out (by kernel_rfl)) (fun _ _ _ h => h) (Or.inl ⟨by rfl, ?_⟩) ?_ ?_
            rotate_left
            ·
             intro w'
             go_simp
             with_reducible rfl
            rotate_left
            ·
             simp only [Act.put, Z3a, Z3b, Z3c, i64_w, i32_w]
             rfl
            refine one_ (i := 10) (N := some 6) #[true, true, true, true, true, true, true, true, true, true, true, false, false] rfl rfl (one_of HT_.out (by kernel_rfl)) (by decide) (fun K hK => ?_)
            refine box_step ?hg (N := 6) ?hd (cs := #[.int .i64 0, .slice none 0 0]) (t := 24) ?hr ?_; (case hd => rfl); (case hg => rfl); (case hr => first | (go_simp; done) | (go_simp; rfl))
            intro gb143 hg w28 hbox hb
            have n0_ := Aside0.mk (Kd.V_below (Kd.V_elderB (by (with_reducible repeat (first | apply Z3o | apply Z3m | apply Z3n)); exact HO_137001.out) gb143 (Nat.le_of_eq hg.symm)) hb)
            have n1_ := Aside0.mk (Kd.V_below (Kd.V_elderB (by (with_reducible repeat (first | apply Z3o | apply Z3m | apply Z3n)); exact HO141.out) gb143 (Nat.le_of_eq hg.symm)) hb)
            have n2_ := Aside0.mk (blk_below (g := gb136) (o := .cells #[.int .i64 x137000_2, .slice Ao25 x137001_2.length co25] 24 (0, 0)) (by (with_reducible repeat (first | refine Z3d ?_ _ | refine Z3e ?_ | refine Z3f ?_ _)); exact BK136.out) hb)
            have n3_ := Aside0.mk (below_step (by repeat (first | (with_reducible first | exact HB.out | apply Z3k | apply Z3i | apply Z3j | refine Z3l ?_ GE136.out) | exact HB.out)) hb)
            have n4_ := Aside0.mk (hbox)
            have n5_ := Aside0.mk ((by rw [hg]; exact (below_size (by repeat (first | (with_reducible first | exact HB.out | apply Z3k | apply Z3i | apply Z3j | refine Z3l ?_ GE136.out) | exact HB.out))) : w.heap.size ≤ gb143))
            have n6_ := Aside0.mk ((by rw [hg]; exact (below_size (by repeat (first | (with_reducible first | exact HB.out | apply Z3k | apply Z3i | apply Z3j | refine Z3l ?_ GE136.out) | exact HB.out))) : w.heap.size ≤ gb143))
            have n7_ := Aside0.mk ((by rw [hg]; exact Nat.ne_of_lt (blk_lt (g := gb136) (o := .cells #[.int .i64 x137000_2, .slice Ao25 x137001_2.length co25] 24 (0, 0)) (by (with_reducible repeat (first | refine Z3d ?_ _ | refine Z3e ?_ | refine Z3f ?_ _)); exact BK136.out)) : gb136 ≠ gb143))
            have n8_ := Aside0.mk ((by rw [hg]; exact Nat.ne_of_gt (blk_lt (g := gb136) (o := .cells #[.int .i64 x137000_2, .slice Ao25 x137001_2.length co25] 24 (0, 0)) (by (with_reducible repeat (first | refine Z3d ?_ _ | refine Z3e ?_ | refine Z3f ?_ _)); exact BK136.out)) : gb143 ≠ gb136))
            clear HO_137001
            clear HO141
            clear BK136
            clear HB
            have HO_137001 := n0_
            have HO141 := n1_
            have BK136 := n2_
            have HB := n3_
            have BK143 := n4_
            have GW143 := n5_
            have GE143 := n6_
            have NB136_143 := n7_
            have NB143_136 := n8_
            clear n0_ n1_ n2_ n3_ n4_ n5_ n6_ n7_ n8_
            clear hb hbox hg
            refine hK.out _ _ ⟨(Z3p BK136.out 0).trans rfl, (Z3p BK136.out 1).trans rfl, ((HB.out.cell (Z3g w _ hw137_0)).trans hw137_0)⟩ (fun hHeld => ?_)
            clear hK K
            refine norm_ (a' := ?_) ?_ ?_
            rotate_left
            ·
             show Act.put _ (some 6) _ = _
             simp only [Act.put, Z3a, Z3b, Z3c, i64_w, i32_w]
             rfl
            exact norm_ (by simp only [putAll, Act.put, List.setIfInBounds_toArray, List.set_cons_zero, List.set_cons_succ]) (hCont (v140, gb143) _ ⟨hHeld, (by (with_reducible repeat (first | apply Z3o | apply Z3m | apply Z3n)); exact HO141.out), (by (with_reducible repeat (first | apply Z3o | apply Z3m | apply Z3n)); exact HO_137001.out), (by (with_reducible repeat (first | refine Z3d ?_ _ | refine Z3e ?_ | refine Z3f ?_ _)); exact BK136.out), (by (with_reducible repeat (first | refine Z3d ?_ _ | refine Z3e ?_ | refine Z3f ?_ _)); exact BK143.out), GW143.out, GE143.out, NB136_143.out, NB143_136.out, (by repeat (first | (with_reducible first | exact HB.out | apply Z3k | apply Z3i | apply Z3j | refine Z3l ?_ GE136.out | refine Z3l ?_ GE143.out) | exact HB.out))⟩)
           ·
            skip
            refine box_step ?hg (N := 6) ?hd (cs := #[.int .i64 0, .slice none 0 0]) (t := 24) ?hr ?_; (case hd => rfl); (case hg => rfl); (case hr => first | (go_simp; done) | (go_simp; rfl))
            intro gb143 hg w27 hbox hb
            have n0_ := Aside0.mk (Kd.V_below (Kd.V_elderB (by (with_reducible repeat (first | apply Z3o | apply Z3m | apply Z3n)); exact HO_137001.out) gb143 (Nat.le_of_eq hg.symm)) hb)
            have n1_ := Aside0.mk (blk_below (g := gb136) (o := .cells #[.int .i64 x137000_2, .slice Ao25 x137001_2.length co25] 24 (0, 0)) (by (with_reducible repeat (first | refine Z3d ?_ _ | refine Z3e ?_ | refine Z3f ?_ _)); exact BK136.out) hb)
            have n2_ := Aside0.mk (below_step (by repeat (first | (with_reducible first | exact HB.out | apply Z3k | apply Z3i | apply Z3j | refine Z3l ?_ GE136.out) | exact HB.out)) hb)
            have n3_ := Aside0.mk (hbox)
            have n4_ := Aside0.mk ((by rw [hg]; exact (below_size (by repeat (first | (with_reducible first | exact HB.out | apply Z3k | apply Z3i | apply Z3j | refine Z3l ?_ GE136.out) | exact HB.out))) : w.heap.size ≤ gb143))
            have n5_ := Aside0.mk ((by rw [hg]; exact (below_size (by repeat (first | (with_reducible first | exact HB.out | apply Z3k | apply Z3i | apply Z3j | refine Z3l ?_ GE136.out) | exact HB.out))) : w.heap.size ≤ gb143))
            have n6_ := Aside0.mk ((by rw [hg]; exact Nat.ne_of_lt (blk_lt (g := gb136) (o := .cells #[.int .i64 x137000_2, .slice Ao25 x137001_2.length co25] 24 (0, 0)) (by (with_reducible repeat (first | refine Z3d ?_ _ | refine Z3e ?_ | refine Z3f ?_ _)); exact BK136.out)) : gb136 ≠ gb143))
            have n7_ := Aside0.mk ((by rw [hg]; exact Nat.ne_of_gt (blk_lt (g := gb136) (o := .cells #[.int .i64 x137000_2, .slice Ao25 x137001_2.length co25] 24 (0, 0)) (by (with_reducible repeat (first | refine Z3d ?_ _ | refine Z3e ?_ | refine Z3f ?_ _)); exact BK136.out)) : gb143 ≠ gb136))
            clear HO_137001
            clear BK136
            clear HB
            have HO_137001 := n0_
            have BK136 := n1_
            have HB := n2_
            have BK143 := n3_
            have GW143 := n4_
            have GE143 := n5_
            have NB136_143 := n6_
            have NB143_136 := n7_
            clear n0_ n1_ n2_ n3_ n4_ n5_ n6_ n7_
            clear hb hbox hg
            refine hK.out _ _ ⟨(Z3p BK136.out 0).trans rfl, (Z3p BK136.out 1).trans rfl, ((HB.out.cell (Z3g w _ hw137_0)).trans hw137_0)⟩ (fun hHeld => ?_)
            clear hK K
            refine norm_ (a' := ?_) ?_ ?_
            rotate_left
            ·
             show Act.put _ (some 6) _ = _
             simp only [Act.put, Z3a, Z3b, Z3c, i64_w, i32_w]
             rfl
            refine one_ (i := 6) (N := some 36) #[true, true, true, true, true, true, true, false, false, false, true, false, false] rfl rfl (one_of HT_.out (by kernel_rfl)) (by decide) (fun K hK => ?_)
            refine goes_ Try.func12 (by kernel_rfl) rfl #[.agg #[.int .i64 x137000_2, .slice Ao25 x137001_2.length co25], .int .i64 (rd l0 x5_2), .agg #[.int .i64 0, .int .i64 0, .string (⟨#[]⟩ : ByteArray)]] (by rfl) rfl rfl (by (try simp only [List.map_toArray, List.map_cons, List.map_nil]); first | done | rfl | (simp only [List.length_drop, List.length_take]; rfl)) ?_
            with_reducible refine (window_Put.calls k2 x137000_2 _ _ x137001_2 (rd l0 x5_2) 0 0 (⟨#[]⟩ : ByteArray) t138 t139 t142 _ ?side1 ?side2 A11.out).mono ?_
            (case side1 => repeat (first | exact (Kd.V_reads' HO_137001.out).2.2 | (with_reducible refine Kd.C_alloc ?_ _) | (with_reducible refine Kd.C_drewN ?_ _) | (with_reducible refine Kd.C_drew ?_)))
            (case side2 => exact (Kd.V_reads' HO_137001.out).2.1)
            rintro e w28 ⟨v140, rfl, ho0, hb⟩
            refine ⟨_, rfl, ?_⟩
            have n0_ := Aside0.mk (Kd.V_below (by (with_reducible repeat (first | apply Z3o | apply Z3m | apply Z3n)); exact HO_137001.out) hb)
            have n1_ := Aside0.mk (Kd.V_lower (Kd.V_mono (ok' := fun k_ => k_ ≠ gb136 ∧ k_ ≠ gb143) ho0 (fun k_ hk_ => ⟨(Kd.freshB (g := gb136) (o := .cells #[.int .i64 x137000_2, .slice Ao25 x137001_2.length co25] 24 (0, 0)) (by (with_reducible repeat (first | refine Z3d ?_ _ | refine Z3e ?_ | refine Z3f ?_ _)); exact BK136.out) k_ hk_), (Kd.freshB (g := gb143) (o := .cells #[.int .i64 0, .slice none 0 0] 24 (0, 0)) (by (with_reducible repeat (first | refine Z3d ?_ _ | refine Z3e ?_ | refine Z3f ?_ _)); exact BK143.out) k_ hk_)⟩)) (below_size (by repeat (first | (with_reducible first | exact HB.out | apply Z3k | apply Z3i | apply Z3j | refine Z3l ?_ GE136.out | refine Z3l ?_ GE143.out) | exact HB.out))))
            have n2_ := Aside0.mk (blk_below (g := gb136) (o := .cells #[.int .i64 x137000_2, .slice Ao25 x137001_2.length co25] 24 (0, 0)) (by (with_reducible repeat (first | refine Z3d ?_ _ | refine Z3e ?_ | refine Z3f ?_ _)); exact BK136.out) hb)
            have n3_ := Aside0.mk (blk_below (g := gb143) (o := .cells #[.int .i64 0, .slice none 0 0] 24 (0, 0)) (by (with_reducible repeat (first | refine Z3d ?_ _ | refine Z3e ?_ | refine Z3f ?_ _)); exact BK143.out) hb)
            have n4_ := Aside0.mk (below_step (by repeat (first | (with_reducible first | exact HB.out | apply Z3k | apply Z3i | apply Z3j | refine Z3l ?_ GE136.out | refine Z3l ?_ GE143.out) | exact HB.out)) hb)
            clear HO_137001
            clear BK136
            clear BK143
            clear HB
            have HO_137001 := n0_
            have HO141 := n1_
            have BK136 := n2_
            have BK143 := n3_
            have HB := n4_
            clear n0_ n1_ n2_ n3_ n4_
            (try clear hb)
            (try clear hb2)
            (try clear hk)
            (try clear hi)
            (try clear ho0)
            refine hK.out _ _ ⟨(Z3p BK136.out 0).trans rfl, (Z3p BK136.out 1).trans rfl, ((HB.out.cell (Z3g w _ hw137_0)).trans hw137_0)⟩ (fun hHeld => ?_)
            clear hK K
            refine norm_ (a' := ?_) ?_ ?_
            rotate_left
            ·
             show Act.put _ (some 36) _ = _
             simp only [Act.put, Z3a, Z3b, Z3c, i64_w, i32_w]
             rfl
            refine pure_ (i := 7) (N := some 29) (v := ?_) (a' := ?_) #[true, true, true, true, true, true, true, true, false, false, true, false, false] rfl rfl (any_of HT_.out (by kernel_rfl)) (fun _ _ _ h => h) (Or.inl ⟨by rfl, ?_⟩) ?_ ?_
            rotate_left
            ·
             intro w'
             go_simp
             with_reducible rfl
            rotate_left
            ·
             simp only [Act.put, Z3a, Z3b, Z3c, i64_w, i32_w]
             rfl
            refine pure_ (i := 8) (N := some 37) (v := ?_) (a' := ?_) #[true, true, true, true, true, true, true, true, true, false, true, false, false] rfl rfl (any_of HT_.out (by kernel_rfl)) (fun _ _ _ h => h) (Or.inl ⟨by rfl, ?_⟩) ?_ ?_
            rotate_left
            ·
             intro w'
             go_simp
             with_reducible rfl
            rotate_left
            ·
             simp only [Act.put, Z3a, Z3b, Z3c, i64_w, i32_w]
             rfl
            refine pure_ (i := 9) (N := some 38) (v := ?_) (a' := ?_) #[true, true, true, true, true, true, true, true, true, true, true, false, false] rfl rfl (any_of HT_.out (by kernel_rfl)) (fun _ _ _ h => h) (Or.inl ⟨by rfl, ?_⟩) ?_ ?_
            rotate_left
            ·
             intro w'
             go_simp
             with_reducible rfl
            rotate_left
            ·
             simp only [Act.put, Z3a, Z3b, Z3c, i64_w, i32_w]
             rfl
            exact norm_ (by simp only [putAll, Act.put, List.setIfInBounds_toArray, List.set_cons_zero, List.set_cons_succ]) (hCont (v140, gb143) _ ⟨hHeld, (by (with_reducible repeat (first | apply Z3o | apply Z3m | apply Z3n)); exact HO141.out), (by (with_reducible repeat (first | apply Z3o | apply Z3m | apply Z3n)); exact HO_137001.out), (by (with_reducible repeat (first | refine Z3d ?_ _ | refine Z3e ?_ | refine Z3f ?_ _)); exact BK136.out), (by (with_reducible repeat (first | refine Z3d ?_ _ | refine Z3e ?_ | refine Z3f ?_ _)); exact BK143.out), GW143.out, GE143.out, NB136_143.out, NB143_136.out, (by repeat (first | (with_reducible first | exact HB.out | apply Z3k | apply Z3i | apply Z3j | refine Z3l ?_ GE136.out | refine Z3l ?_ GE143.out) | exact HB.out))⟩)
          rintro ⟨v140, gb143⟩ w29 ⟨hS_, h0_, h1_, h2_, h3_, h4_, h5_, h6_, h7_, h8_⟩
          have n0_ : Aside0 (Kd.V k42 42 w29 w.heap.size (fun k_ => k_ ≠ gb136 ∧ k_ ≠ gb143) v140 t139) := ⟨h0_⟩
          have n1_ : Aside0 (Kd.V k42 42 w29 w.heap.size (fun k_ => k_ ≠ gb136 ∧ k_ ≠ gb143) (.slice Ao25 x137001_2.length co25) x137001_2) := ⟨h1_⟩
          have n2_ : Aside0 (w29.heap[gb136]? = some (.cells #[.int .i64 x137000_2, .slice Ao25 x137001_2.length co25] 24 (0, 0))) := ⟨h2_⟩
          have n3_ : Aside0 (w29.heap[gb143]? = some (.cells #[.int .i64 0, .slice none 0 0] 24 (0, 0))) := ⟨h3_⟩
          have n4_ : Aside0 (w.heap.size ≤ gb143) := ⟨h4_⟩
          have n5_ : Aside0 (w.heap.size ≤ gb143) := ⟨h5_⟩
          have n6_ : Aside0 (gb136 ≠ gb143) := ⟨h6_⟩
          have n7_ : Aside0 (gb143 ≠ gb136) := ⟨h7_⟩
          have n8_ : Aside0 (Below w.heap.size w w29) := ⟨h8_⟩
          clear HO_137001
          clear BK136
          clear HB
          clear h0_ h1_ h2_ h3_ h4_ h5_ h6_ h7_ h8_
          have HO141 := n0_
          have HO_137001 := n1_
          have BK136 := n2_
          have BK143 := n3_
          have GW143 := n4_
          have GE143 := n5_
          have NB136_143 := n6_
          have NB143_136 := n7_
          have HB := n8_
          clear n0_ n1_ n2_ n3_ n4_ n5_ n6_ n7_ n8_
          have hHeld : w29.cell? ⟨gb136, 0, none⟩ = some (.int .i64 x137000_2) ∧ w29.cell? ⟨gb136, 1, none⟩ = some (.slice Ao25 x137001_2.length co25) ∧ w29.cell? (ad137.add (x5_2).toNat) = some (.int .i64 (rd l0 x5_2)) := hS_
          obtain ⟨Ao31, co31, eo31⟩ := Kd.V_slice HO141.out
          (first | subst eo31 | (injection eo31 with f1_ f2_ f3_; have f4_ := f1_.symm; have f5_ := f3_.symm; clear f1_ f2_ f3_; subst f4_; subst f5_))
          refine norm_ (a' := ?_) ?_ ?_
          rotate_left
          ·
           simp only [putAll, Act.put, List.setIfInBounds_toArray, List.set_cons_zero, List.set_cons_succ]
           rfl
          refine one_ (i := 11) (N := none) #[true, true, true, true, true, true, true, true, true, true, true, true, false] rfl rfl (one_of HT_.out (by kernel_rfl)) (by decide) (fun K hK => ?_)
          have hs30 : w29.cell? ⟨gb143, 0, none⟩ = some (.int .i64 0) := (Z3p BK143.out 0).trans rfl
          have hfs30 := blk_frozen BK143.out 0
          have hns30_0 := NB136_143.out
          have hms30_0 := NB143_136.out
          have hs32 : w29.cell? ⟨gb143, 1, none⟩ = some (.slice none 0 0) := (Z3p BK143.out 1).trans rfl
          have hfs32 := blk_frozen BK143.out 1
          have hns32_0 := NB136_143.out
          have hms32_0 := NB143_136.out
          refine skip_ (w1 := ?_) (by rfl) rfl ?_ ?_
          rotate_left
          ·
           go_simp
           rfl
          refine hK.out _ _ ⟨((cell_far (p := ⟨gb143, _, none⟩) NB136_143.out _).trans (((cell_far (p := ⟨gb143, _, none⟩) NB136_143.out _).trans (hHeld.1)))), ((cell_far (p := ⟨gb143, _, none⟩) NB136_143.out _).trans (((cell_far (p := ⟨gb143, _, none⟩) NB136_143.out _).trans (hHeld.2.1)))), ((cell_far (p := ⟨gb143, _, none⟩) (by first | exact Nat.ne_of_lt (Z3h (by have := Z3g _ _ hw137_0; first | rwa [add_block] at this | exact this) GW143.out) | (rw [add_block]; exact Nat.ne_of_lt (Z3h (by have := Z3g _ _ hw137_0; first | rwa [add_block] at this | exact this) GW143.out)) | (show (Addr.add _ _).block ≠ _; rw [add_block]; exact Nat.ne_of_lt (Z3h (by have := Z3g _ _ hw137_0; first | rwa [add_block] at this | exact this) GW143.out)) | (dsimp only; exact Nat.ne_of_lt (Z3h (by have := Z3g _ _ hw137_0; first | rwa [add_block] at this | exact this) GW143.out))) _).trans (((cell_far (p := ⟨gb143, _, none⟩) (by first | exact Nat.ne_of_lt (Z3h (by have := Z3g _ _ hw137_0; first | rwa [add_block] at this | exact this) GW143.out) | (rw [add_block]; exact Nat.ne_of_lt (Z3h (by have := Z3g _ _ hw137_0; first | rwa [add_block] at this | exact this) GW143.out)) | (show (Addr.add _ _).block ≠ _; rw [add_block]; exact Nat.ne_of_lt (Z3h (by have := Z3g _ _ hw137_0; first | rwa [add_block] at this | exact this) GW143.out)) | (dsimp only; exact Nat.ne_of_lt (Z3h (by have := Z3g _ _ hw137_0; first | rwa [add_block] at this | exact this) GW143.out))) _).trans (hHeld.2.2))))⟩ (fun hHeld => ?_)
          clear hK K
          refine pure_ (i := 12) (N := some 7) (v := ?_) (a' := ?_) #[true, true, true, true, true, true, true, true, true, true, true, true, true] rfl rfl (any_of HT_.out (by kernel_rfl)) (fun _ _ _ h => h) (Or.inl ⟨by rfl, ?_⟩) ?_ ?_
          rotate_left
          ·
           intro w'
           go_simp
           with_reducible rfl
          rotate_left
          ·
           simp only [Act.put, Z3a, Z3b, Z3c, i64_w, i32_w]
           rfl
          refine done_ (done_of HT_.out (by kernel_rfl)) ?_
          have hnb33 := NB143_136.out
          have hnc33 := NB136_143.out
          have hcz34_0 : w29.cell? ⟨gb143, 0, none⟩ = some (.int .i64 0) := (Z3p BK143.out 0).trans rfl
          have hcz34_1 : w29.cell? ⟨gb143, 1, none⟩ = some (.slice none 0 0) := (Z3p BK143.out 1).trans rfl
          have hfz34_0 := blk_frozen BK143.out 0
          have hfz34_1 := blk_frozen BK143.out 1
          have hcz35_0 : w29.cell? ⟨gb136, 0, none⟩ = some (.int .i64 x137000_2) := (Z3p BK136.out 0).trans rfl
          have hcz35_1 : w29.cell? ⟨gb136, 1, none⟩ = some (.slice Ao25 x137001_2.length co25) := (Z3p BK136.out 1).trans rfl
          have hfz35_0 := blk_frozen BK136.out 0
          have hfz35_1 := blk_frozen BK136.out 1
          try go_wp2
          go_roundg k2
          case measure => have := HJ2.out; have := HK2.out; omega
          case rel => exact ⟨(wrap64 (x5_2 + 1)), (t138), (t139), (.slice Ao31 t139.length co31), (by first | rfl | (simp; done) | (simp [*]; done)), H', ⟨by have := HJ2.out; have := HK2.out; omega⟩, ⟨by (with_reducible repeat (first | apply Z3o | apply Z3m | apply Z3n)); exact Kd.V_mono (Kd.V_far (p := ⟨gb136, 1, none⟩) (Kd.V_far (p := ⟨gb136, 0, none⟩) (Kd.V_far (p := ⟨gb143, 1, none⟩) (Kd.V_far (p := ⟨gb143, 0, none⟩) (Kd.V_mono (Kd.V_mono HO141.out (fun k_ hk => (⟨hk, hk.2⟩ : _ ∧ k_ ≠ gb143))) (fun k_ hk => (⟨hk, hk.1.1⟩ : _ ∧ k_ ≠ gb136))) (fun _ hk => hk.1.2) (.int .i64 t138)) (fun _ hk => hk.1.2) (.slice Ao31 t139.length co31)) (fun _ hk => hk.2) (.int .i64 t138)) (fun _ hk => hk.2) (.slice Ao31 t139.length co31)) (fun _ hk => hk.1.1.1)⟩, ⟨by (with_reducible repeat (first | refine Z3d ?_ _ | refine Z3e ?_ | refine Z3f ?_ _)); refine blk_put (cs := #[.int .i64 t138, .slice Ao25 x137001_2.length co25]) ?_ 1 _ rfl; (with_reducible repeat (first | refine Z3d ?_ _ | refine Z3e ?_ | refine Z3f ?_ _)); refine blk_put (cs := #[.int .i64 x137000_2, .slice Ao25 x137001_2.length co25]) ?_ 0 _ rfl; (with_reducible repeat (first | refine Z3d ?_ _ | refine Z3e ?_ | refine Z3f ?_ _)); refine blk_far ?_ NB136_143.out _; (with_reducible repeat (first | refine Z3d ?_ _ | refine Z3e ?_ | refine Z3f ?_ _)); refine blk_far ?_ NB136_143.out _; (with_reducible repeat (first | refine Z3d ?_ _ | refine Z3e ?_ | refine Z3f ?_ _)); exact BK136.out⟩, ⟨by repeat (first | (with_reducible first | exact HB.out | apply Z3k | apply Z3i | apply Z3j | refine Z3l ?_ GE136.out | refine Z3l ?_ GE143.out) | exact HB.out)⟩⟩
        ·
         rw [if_neg c12] at H
         have c12b0 : (t142 == 0) = false := beq_eq_false_iff_ne.mpr c12
         have c12b1 : (t142 != 0) = true := bne_iff_ne.mpr c12
         have H' := Aside0.mk H
         clear H
         obtain ⟨Ao36, co36, eo36⟩ := Kd.V_slice HO_137001.out
         subst eo36
         try go_wp2
         have n0_ := Aside0.mk (Z3n HO_137001.out)
         have n1_ := Aside0.mk (Z3e BK136.out)
         have n2_ := Aside0.mk (Z3j HB.out)
         clear HO_137001
         clear BK136
         clear HB
         have HO_137001 := n0_
         have BK136 := n1_
         have HB := n2_
         clear n0_ n1_ n2_
         have p137 : 0 ≤ (x5_2 : Int) := of_decide_eq_true (by first | (with_reducible assumption) | assumption)
         have q137 : x5_2 < (l0.length : Int) := of_decide_eq_true (by first | (with_reducible assumption) | assumption)
         obtain ⟨ad137, e137, hx137_0⟩ := Kd.at_int HR0.out x5_2 p137 q137
         have hw137_0 := hx137_0
         cases e137
         replace hx137_0 := (HB.out.cell (Z3g w _ hx137_0)).trans hx137_0
         replace p137 := eq_true p137
         replace q137 := eq_true q137
         refine start_ (n := 13) (S := fun w' => w'.cell? ⟨gb136, 0, none⟩ = some (.int .i64 x137000_2) ∧ w'.cell? ⟨gb136, 1, none⟩ = some (.slice Ao36 x137001_2.length co36) ∧ w'.cell? (ad137.add (x5_2).toNat) = some (.int .i64 (rd l0 x5_2))) (ds := []) #[false, false, false, false, false, false, false, false, false, false, false, false, false] (by kernel_rfl) rfl rfl ⟨(Z3p BK136.out 0).trans rfl, (Z3p BK136.out 1).trans rfl, ((HB.out.cell (Z3g w _ hw137_0)).trans hw137_0)⟩ (fun hHeld => ?_); refine with_tabW colloquylaw17_WindowLow.tab8 colloquylaw17_WindowLow.bits8 (fun HT_ HW_ => ?_)
         generalize wr.drew = w37 at HO_137001 BK136 HB hx137_0 hHeld ⊢
         refine pure_ (i := 1) (N := some 31) (v := ?_) (a' := ?_) #[false, true, false, false, false, false, false, false, false, false, false, false, false] rfl rfl (any_of HT_.out (by kernel_rfl)) (fun _ _ _ h => h) (Or.inl ⟨by rfl, ?_⟩) ?_ ?_
         rotate_left
         ·
          intro w'
          go_simp
          with_reducible rfl
         rotate_left
         ·
          simp only [Act.put, Z3a, Z3b, Z3c, i64_w, i32_w]
          rfl
         refine pure_ (i := 2) (N := some 32) (v := ?_) (a' := ?_) #[false, true, true, false, false, false, false, false, false, false, false, false, false] rfl rfl (any_of HT_.out (by kernel_rfl)) (fun _ _ _ h => h) (Or.inl ⟨by rfl, ?_⟩) ?_ ?_
         rotate_left
         ·
          intro w'
          go_simp
          with_reducible rfl
         rotate_left
         ·
          simp only [Act.put, Z3a, Z3b, Z3c, i64_w, i32_w]
          rfl
         refine pure_ (i := 3) (N := some 33) (v := ?_) (a' := ?_) #[false, true, true, true, false, false, false, false, false, false, false, false, false] rfl rfl (any_of HT_.out (by kernel_rfl)) (fun _ _ _ h => h) (Or.inl ⟨by rfl, ?_⟩) ?_ ?_
         rotate_left
         ·
          intro w'
          go_simp
          with_reducible rfl
         rotate_left
         ·
          simp only [Act.put, Z3a, Z3b, Z3c, i64_w, i32_w]
          rfl
         refine pure_ (i := 5) (N := some 35) (v := ?_) (a' := ?_) #[false, true, true, true, false, true, false, false, false, false, false, false, false] rfl rfl (any_of HT_.out (by kernel_rfl)) (fun _ _ _ h => h) (Or.inl ⟨by rfl, ?_⟩) ?_ ?_
         rotate_left
         ·
          intro w'
          go_simp
          with_reducible rfl
         rotate_left
         ·
          simp only [Act.put, Z3a, Z3b, Z3c, i64_w, i32_w]
          rfl
         refine take_ (i := 0) (N := some 30) (v := ?_) (a' := ?_) #[true, true, true, true, false, true, false, false, false, false, false, false, false] rfl rfl (take_ofW HT_.out HW_.out (by kernel_rfl)) (fun _ _ _ h => h) (Or.inl ⟨by rfl, ?_⟩) hHeld ?_ ?_
         rotate_left
         ·
          rintro w' ⟨s0, s1, s2⟩
          go_simp
          with_reducible rfl
         rotate_left
         ·
          simp only [Act.put, Z3a, Z3b, Z3c, i64_w, i32_w]
          rfl
         refine take_ (i := 4) (N := some 34) (v := ?_) (a' := ?_) #[true, true, true, true, true, true, false, false, false, false, false, false, false] rfl rfl (take_ofW HT_.out HW_.out (by kernel_rfl)) (fun _ _ _ h => h) (Or.inl ⟨by rfl, ?_⟩) hHeld ?_ ?_
         rotate_left
         ·
          rintro w' ⟨s0, s1, s2⟩
          go_simp
          with_reducible rfl
         rotate_left
         ·
          simp only [Act.put, Z3a, Z3b, Z3c, i64_w, i32_w]
          rfl
         refine join_ (σ := Value × Nat) 2 #[true, true, true, true, true, true, true, true, true, true, true, false, false] (fun s_ => [(36, .tuple #[.agg #[.int .i64 t138, s_.1], .int .i64 t142]), (6, .pointer (some ⟨s_.2, 0, none⟩)), (29, .tuple #[.agg #[.int .i64 t138, s_.1], .int .i64 t142]), (37, .agg #[.int .i64 t138, s_.1]), (38, .int .i64 t142)]) (fun s_ w' => (w'.cell? ⟨gb136, 0, none⟩ = some (.int .i64 x137000_2) ∧ w'.cell? ⟨gb136, 1, none⟩ = some (.slice Ao36 x137001_2.length co36) ∧ w'.cell? (ad137.add (x5_2).toNat) = some (.int .i64 (rd l0 x5_2))) ∧ (Kd.V k42 42 w' w.heap.size (fun k_ => k_ ≠ gb136 ∧ k_ ≠ s_.2) s_.1 t139) ∧ (Kd.V k42 42 w' w.heap.size (fun k_ => k_ ≠ gb136 ∧ k_ ≠ s_.2) (.slice Ao36 x137001_2.length co36) x137001_2) ∧ (w'.heap[gb136]? = some (.cells #[.int .i64 x137000_2, .slice Ao36 x137001_2.length co36] 24 (0, 0))) ∧ (w'.heap[s_.2]? = some (.cells #[.int .i64 0, .slice none 0 0] 24 (0, 0))) ∧ (w.heap.size ≤ s_.2) ∧ (w.heap.size ≤ s_.2) ∧ (gb136 ≠ s_.2) ∧ (s_.2 ≠ gb136) ∧ (Below w.heap.size w w')) ?_ ?_
         rotate_left
         ·
          intro hCont
          refine two_ (i := 6) (j := 10) (Ni := some 36) (Nj := some 6) #[true, true, true, true, true, true, true, false, false, false, false, false, false] #[true, true, true, true, true, true, false, false, false, false, true, false, false] rfl rfl rfl rfl (two_of HT_.out (by kernel_rfl)) (by decide) (by decide) (fun K hK => ?_) (fun K hK => ?_)
          ·
           skip
           refine goes_ Try.func12 (by kernel_rfl) rfl #[.agg #[.int .i64 x137000_2, .slice Ao36 x137001_2.length co36], .int .i64 (rd l0 x5_2), .agg #[.int .i64 0, .int .i64 0, .string (⟨#[]⟩ : ByteArray)]] (by rfl) rfl rfl (by (try simp only [List.map_toArray, List.map_cons, List.map_nil]); first | done | rfl | (simp only [List.length_drop, List.length_take]; rfl)) ?_
           with_reducible refine (window_Put.calls k2 x137000_2 _ _ x137001_2 (rd l0 x5_2) 0 0 (⟨#[]⟩ : ByteArray) t138 t139 t142 _ ?side1 ?side2 A11.out).mono ?_
           (case side1 => repeat (first | exact (Kd.V_reads' HO_137001.out).2.2 | (with_reducible refine Kd.C_alloc ?_ _) | (with_reducible refine Kd.C_drewN ?_ _) | (with_reducible refine Kd.C_drew ?_)))
           (case side2 => exact (Kd.V_reads' HO_137001.out).2.1)
           rintro e w38 ⟨v140, rfl, ho0, hb⟩
           refine ⟨_, rfl, ?_⟩
           have n0_ := Aside0.mk (Kd.V_below (by (with_reducible repeat (first | apply Z3o | apply Z3m | apply Z3n)); exact HO_137001.out) hb)
           have n1_ := Aside0.mk (Kd.V_lower (Kd.V_mono (ok' := fun k_ => k_ ≠ gb136) ho0 (fun k_ hk_ => (Kd.freshB (g := gb136) (o := .cells #[.int .i64 x137000_2, .slice Ao36 x137001_2.length co36] 24 (0, 0)) (by (with_reducible repeat (first | refine Z3d ?_ _ | refine Z3e ?_ | refine Z3f ?_ _)); exact BK136.out) k_ hk_))) (below_size (by repeat (first | (with_reducible first | exact HB.out | apply Z3k | apply Z3i | apply Z3j | refine Z3l ?_ GE136.out) | exact HB.out))))
           have n2_ := Aside0.mk (blk_below (g := gb136) (o := .cells #[.int .i64 x137000_2, .slice Ao36 x137001_2.length co36] 24 (0, 0)) (by (with_reducible repeat (first | refine Z3d ?_ _ | refine Z3e ?_ | refine Z3f ?_ _)); exact BK136.out) hb)
           have n3_ := Aside0.mk (below_step (by repeat (first | (with_reducible first | exact HB.out | apply Z3k | apply Z3i | apply Z3j | refine Z3l ?_ GE136.out) | exact HB.out)) hb)
           clear HO_137001
           clear BK136
           clear HB
           have HO_137001 := n0_
           have HO141 := n1_
           have BK136 := n2_
           have HB := n3_
           clear n0_ n1_ n2_ n3_
           (try clear hb)
           (try clear hb2)
           (try clear hk)
           (try clear hi)
           (try clear ho0)
           refine hK.out _ _ ⟨(Z3p BK136.out 0).trans rfl, (Z3p BK136.out 1).trans rfl, ((HB.out.cell (Z3g w _ hw137_0)).trans hw137_0)⟩ (fun hHeld => ?_)
           clear hK K
           refine norm_ (a' := ?_) ?_ ?_
           rotate_left
           ·
            show Act.put _ (some 36) _ = _
            simp only [Act.put, Z3a, Z3b, Z3c, i64_w, i32_w]
            rfl
           refine pure_ (i := 7) (N := some 29) (v := ?_) (a' := ?_) #[true, true, true, true, true, true, true, true, false, false, false, false, false] rfl rfl (any_of HT_.out (by kernel_rfl)) (fun _ _ _ h => h) (Or.inl ⟨by rfl, ?_⟩) ?_ ?_
           rotate_left
           ·
            intro w'
            go_simp
            with_reducible rfl
           rotate_left
           ·
            simp only [Act.put, Z3a, Z3b, Z3c, i64_w, i32_w]
            rfl
           refine pure_ (i := 8) (N := some 37) (v := ?_) (a' := ?_) #[true, true, true, true, true, true, true, true, true, false, false, false, false] rfl rfl (any_of HT_.out (by kernel_rfl)) (fun _ _ _ h => h) (Or.inl ⟨by rfl, ?_⟩) ?_ ?_
           rotate_left
           ·
            intro w'
            go_simp
            with_reducible rfl
           rotate_left
           ·
            simp only [Act.put, Z3a, Z3b, Z3c, i64_w, i32_w]
            rfl
           refine pure_ (i := 9) (N := some 38) (v := ?_) (a' := ?_) #[true, true, true, true, true, true, true, true, true, true, false, false, false] rfl rfl (any_of HT_.out (by kernel_rfl)) (fun _ _ _ h => h) (Or.inl ⟨by rfl, ?_⟩) ?_ ?_
           rotate_left
           ·
            intro w'
            go_simp
            with_reducible rfl
           rotate_left
           ·
            simp only [Act.put, Z3a, Z3b, Z3c, i64_w, i32_w]
            rfl
           refine one_ (i := 10) (N := some 6) #[true, true, true, true, true, true, true, true, true, true, true, false, false] rfl rfl (one_of HT_.out (by kernel_rfl)) (by decide) (fun K hK => ?_)
           refine box_step ?hg (N := 6) ?hd (cs := #[.int .i64 0, .slice none 0 0]) (t := 24) ?hr ?_; (case hd => rfl); (case hg => rfl); (case hr => first | (go_simp; done) | (go_simp; rfl))
           intro gb143 hg w39 hbox hb
           have n0_ := Aside0.mk (Kd.V_below (Kd.V_elderB (by (with_reducible repeat (first | apply Z3o | apply Z3m | apply Z3n)); exact HO_137001.out) gb143 (Nat.le_of_eq hg.symm)) hb)
           have n1_ := Aside0.mk (Kd.V_below (Kd.V_elderB (by (with_reducible repeat (first | apply Z3o | apply Z3m | apply Z3n)); exact HO141.out) gb143 (Nat.le_of_eq hg.symm)) hb)
           have n2_ := Aside0.mk (blk_below (g := gb136) (o := .cells #[.int .i64 x137000_2, .slice Ao36 x137001_2.length co36] 24 (0, 0)) (by (with_reducible repeat (first | refine Z3d ?_ _ | refine Z3e ?_ | refine Z3f ?_ _)); exact BK136.out) hb)
           have n3_ := Aside0.mk (below_step (by repeat (first | (with_reducible first | exact HB.out | apply Z3k | apply Z3i | apply Z3j | refine Z3l ?_ GE136.out) | exact HB.out)) hb)
           have n4_ := Aside0.mk (hbox)
           have n5_ := Aside0.mk ((by rw [hg]; exact (below_size (by repeat (first | (with_reducible first | exact HB.out | apply Z3k | apply Z3i | apply Z3j | refine Z3l ?_ GE136.out) | exact HB.out))) : w.heap.size ≤ gb143))
           have n6_ := Aside0.mk ((by rw [hg]; exact (below_size (by repeat (first | (with_reducible first | exact HB.out | apply Z3k | apply Z3i | apply Z3j | refine Z3l ?_ GE136.out) | exact HB.out))) : w.heap.size ≤ gb143))
           have n7_ := Aside0.mk ((by rw [hg]; exact Nat.ne_of_lt (blk_lt (g := gb136) (o := .cells #[.int .i64 x137000_2, .slice Ao36 x137001_2.length co36] 24 (0, 0)) (by (with_reducible repeat (first | refine Z3d ?_ _ | refine Z3e ?_ | refine Z3f ?_ _)); exact BK136.out)) : gb136 ≠ gb143))
           have n8_ := Aside0.mk ((by rw [hg]; exact Nat.ne_of_gt (blk_lt (g := gb136) (o := .cells #[.int .i64 x137000_2, .slice Ao36 x137001_2.length co36] 24 (0, 0)) (by (with_reducible repeat (first | refine Z3d ?_ _ | refine Z3e ?_ | refine Z3f ?_ _)); exact BK136.out)) : gb143 ≠ gb136))
           clear HO_137001
           clear HO141
           clear BK136
           clear HB
           have HO_137001 := n0_
           have HO141 := n1_
           have BK136 := n2_
           have HB := n3_
           have BK143 := n4_
           have GW143 := n5_
           have GE143 := n6_
           have NB136_143 := n7_
           have NB143_136 := n8_
           clear n0_ n1_ n2_ n3_ n4_ n5_ n6_ n7_ n8_
           clear hb hbox hg
           refine hK.out _ _ ⟨(Z3p BK136.out 0).trans rfl, (Z3p BK136.out 1).trans rfl, ((HB.out.cell (Z3g w _ hw137_0)).trans hw137_0)⟩ (fun hHeld => ?_)
           clear hK K
           refine norm_ (a' := ?_) ?_ ?_
           rotate_left
           ·
            show Act.put _ (some 6) _ = _
            simp only [Act.put, Z3a, Z3b, Z3c, i64_w, i32_w]
            rfl
           exact norm_ (by simp only [putAll, Act.put, List.setIfInBounds_toArray, List.set_cons_zero, List.set_cons_succ]) (hCont (v140, gb143) _ ⟨hHeld, (by (with_reducible repeat (first | apply Z3o | apply Z3m | apply Z3n)); exact HO141.out), (by (with_reducible repeat (first | apply Z3o | apply Z3m | apply Z3n)); exact HO_137001.out), (by (with_reducible repeat (first | refine Z3d ?_ _ | refine Z3e ?_ | refine Z3f ?_ _)); exact BK136.out), (by (with_reducible repeat (first | refine Z3d ?_ _ | refine Z3e ?_ | refine Z3f ?_ _)); exact BK143.out), GW143.out, GE143.out, NB136_143.out, NB143_136.out, (by repeat (first | (with_reducible first | exact HB.out | apply Z3k | apply Z3i | apply Z3j | refine Z3l ?_ GE136.out | refine Z3l ?_ GE143.out) | exact HB.out))⟩)
          ·
           skip
           refine box_step ?hg (N := 6) ?hd (cs := #[.int .i64 0, .slice none 0 0]) (t := 24) ?hr ?_; (case hd => rfl); (case hg => rfl); (case hr => first | (go_simp; done) | (go_simp; rfl))
           intro gb143 hg w38 hbox hb
           have n0_ := Aside0.mk (Kd.V_below (Kd.V_elderB (by (with_reducible repeat (first | apply Z3o | apply Z3m | apply Z3n)); exact HO_137001.out) gb143 (Nat.le_of_eq hg.symm)) hb)
           have n1_ := Aside0.mk (blk_below (g := gb136) (o := .cells #[.int .i64 x137000_2, .slice Ao36 x137001_2.length co36] 24 (0, 0)) (by (with_reducible repeat (first | refine Z3d ?_ _ | refine Z3e ?_ | refine Z3f ?_ _)); exact BK136.out) hb)
           have n2_ := Aside0.mk (below_step (by repeat (first | (with_reducible first | exact HB.out | apply Z3k | apply Z3i | apply Z3j | refine Z3l ?_ GE136.out) | exact HB.out)) hb)
           have n3_ := Aside0.mk (hbox)
           have n4_ := Aside0.mk ((by rw [hg]; exact (below_size (by repeat (first | (with_reducible first | exact HB.out | apply Z3k | apply Z3i | apply Z3j | refine Z3l ?_ GE136.out) | exact HB.out))) : w.heap.size ≤ gb143))
           have n5_ := Aside0.mk ((by rw [hg]; exact (below_size (by repeat (first | (with_reducible first | exact HB.out | apply Z3k | apply Z3i | apply Z3j | refine Z3l ?_ GE136.out) | exact HB.out))) : w.heap.size ≤ gb143))
           have n6_ := Aside0.mk ((by rw [hg]; exact Nat.ne_of_lt (blk_lt (g := gb136) (o := .cells #[.int .i64 x137000_2, .slice Ao36 x137001_2.length co36] 24 (0, 0)) (by (with_reducible repeat (first | refine Z3d ?_ _ | refine Z3e ?_ | refine Z3f ?_ _)); exact BK136.out)) : gb136 ≠ gb143))
           have n7_ := Aside0.mk ((by rw [hg]; exact Nat.ne_of_gt (blk_lt (g := gb136) (o := .cells #[.int .i64 x137000_2, .slice Ao36 x137001_2.length co36] 24 (0, 0)) (by (with_reducible repeat (first | refine Z3d ?_ _ | refine Z3e ?_ | refine Z3f ?_ _)); exact BK136.out)) : gb143 ≠ gb136))
           clear HO_137001
           clear BK136
           clear HB
           have HO_137001 := n0_
           have BK136 := n1_
           have HB := n2_
           have BK143 := n3_
           have GW143 := n4_
           have GE143 := n5_
           have NB136_143 := n6_
           have NB143_136 := n7_
           clear n0_ n1_ n2_ n3_ n4_ n5_ n6_ n7_
           clear hb hbox hg
           refine hK.out _ _ ⟨(Z3p BK136.out 0).trans rfl, (Z3p BK136.out 1).trans rfl, ((HB.out.cell (Z3g w _ hw137_0)).trans hw137_0)⟩ (fun hHeld => ?_)
           clear hK K
           refine norm_ (a' := ?_) ?_ ?_
           rotate_left
           ·
            show Act.put _ (some 6) _ = _
            simp only [Act.put, Z3a, Z3b, Z3c, i64_w, i32_w]
            rfl
           refine one_ (i := 6) (N := some 36) #[true, true, true, true, true, true, true, false, false, false, true, false, false] rfl rfl (one_of HT_.out (by kernel_rfl)) (by decide) (fun K hK => ?_)
           refine goes_ Try.func12 (by kernel_rfl) rfl #[.agg #[.int .i64 x137000_2, .slice Ao36 x137001_2.length co36], .int .i64 (rd l0 x5_2), .agg #[.int .i64 0, .int .i64 0, .string (⟨#[]⟩ : ByteArray)]] (by rfl) rfl rfl (by (try simp only [List.map_toArray, List.map_cons, List.map_nil]); first | done | rfl | (simp only [List.length_drop, List.length_take]; rfl)) ?_
           with_reducible refine (window_Put.calls k2 x137000_2 _ _ x137001_2 (rd l0 x5_2) 0 0 (⟨#[]⟩ : ByteArray) t138 t139 t142 _ ?side1 ?side2 A11.out).mono ?_
           (case side1 => repeat (first | exact (Kd.V_reads' HO_137001.out).2.2 | (with_reducible refine Kd.C_alloc ?_ _) | (with_reducible refine Kd.C_drewN ?_ _) | (with_reducible refine Kd.C_drew ?_)))
           (case side2 => exact (Kd.V_reads' HO_137001.out).2.1)
           rintro e w39 ⟨v140, rfl, ho0, hb⟩
           refine ⟨_, rfl, ?_⟩
           have n0_ := Aside0.mk (Kd.V_below (by (with_reducible repeat (first | apply Z3o | apply Z3m | apply Z3n)); exact HO_137001.out) hb)
           have n1_ := Aside0.mk (Kd.V_lower (Kd.V_mono (ok' := fun k_ => k_ ≠ gb136 ∧ k_ ≠ gb143) ho0 (fun k_ hk_ => ⟨(Kd.freshB (g := gb136) (o := .cells #[.int .i64 x137000_2, .slice Ao36 x137001_2.length co36] 24 (0, 0)) (by (with_reducible repeat (first | refine Z3d ?_ _ | refine Z3e ?_ | refine Z3f ?_ _)); exact BK136.out) k_ hk_), (Kd.freshB (g := gb143) (o := .cells #[.int .i64 0, .slice none 0 0] 24 (0, 0)) (by (with_reducible repeat (first | refine Z3d ?_ _ | refine Z3e ?_ | refine Z3f ?_ _)); exact BK143.out) k_ hk_)⟩)) (below_size (by repeat (first | (with_reducible first | exact HB.out | apply Z3k | apply Z3i | apply Z3j | refine Z3l ?_ GE136.out | refine Z3l ?_ GE143.out) | exact HB.out))))
           have n2_ := Aside0.mk (blk_below (g := gb136) (o := .cells #[.int .i64 x137000_2, .slice Ao36 x137001_2.length co36] 24 (0, 0)) (by (with_reducible repeat (first | refine Z3d ?_ _ | refine Z3e ?_ | refine Z3f ?_ _)); exact BK136.out) hb)
           have n3_ := Aside0.mk (blk_below (g := gb143) (o := .cells #[.int .i64 0, .slice none 0 0] 24 (0, 0)) (by (with_reducible repeat (first | refine Z3d ?_ _ | refine Z3e ?_ | refine Z3f ?_ _)); exact BK143.out) hb)
           have n4_ := Aside0.mk (below_step (by repeat (first | (with_reducible first | exact HB.out | apply Z3k | apply Z3i | apply Z3j | refine Z3l ?_ GE136.out | refine Z3l ?_ GE143.out) | exact HB.out)) hb)
           clear HO_137001
           clear BK136
           clear BK143
           clear HB
           have HO_137001 := n0_
           have HO141 := n1_
           have BK136 := n2_
           have BK143 := n3_
           have HB := n4_
           clear n0_ n1_ n2_ n3_ n4_
           (try clear hb)
           (try clear hb2)
           (try clear hk)
           (try clear hi)
           (try clear ho0)
           refine hK.out _ _ ⟨(Z3p BK136.out 0).trans rfl, (Z3p BK136.out 1).trans rfl, ((HB.out.cell (Z3g w _ hw137_0)).trans hw137_0)⟩ (fun hHeld => ?_)
           clear hK K
           refine norm_ (a' := ?_) ?_ ?_
           rotate_left
           ·
            show Act.put _ (some 36) _ = _
            simp only [Act.put, Z3a, Z3b, Z3c, i64_w, i32_w]
            rfl
           refine pure_ (i := 7) (N := some 29) (v := ?_) (a' := ?_) #[true, true, true, true, true, true, true, true, false, false, true, false, false] rfl rfl (any_of HT_.out (by kernel_rfl)) (fun _ _ _ h => h) (Or.inl ⟨by rfl, ?_⟩) ?_ ?_
           rotate_left
           ·
            intro w'
            go_simp
            with_reducible rfl
           rotate_left
           ·
            simp only [Act.put, Z3a, Z3b, Z3c, i64_w, i32_w]
            rfl
           refine pure_ (i := 8) (N := some 37) (v := ?_) (a' := ?_) #[true, true, true, true, true, true, true, true, true, false, true, false, false] rfl rfl (any_of HT_.out (by kernel_rfl)) (fun _ _ _ h => h) (Or.inl ⟨by rfl, ?_⟩) ?_ ?_
           rotate_left
           ·
            intro w'
            go_simp
            with_reducible rfl
           rotate_left
           ·
            simp only [Act.put, Z3a, Z3b, Z3c, i64_w, i32_w]
            rfl
           refine pure_ (i := 9) (N := some 38) (v := ?_) (a' := ?_) #[true, true, true, true, true, true, true, true, true, true, true, false, false] rfl rfl (any_of HT_.out (by kernel_rfl)) (fun _ _ _ h => h) (Or.inl ⟨by rfl, ?_⟩) ?_ ?_
           rotate_left
           ·
            intro w'
            go_simp
            with_reducible rfl
           rotate_left
           ·
            simp only [Act.put, Z3a, Z3b, Z3c, i64_w, i32_w]
            rfl
           exact norm_ (by simp only [putAll, Act.put, List.setIfInBounds_toArray, List.set_cons_zero, List.set_cons_succ]) (hCont (v140, gb143) _ ⟨hHeld, (by (with_reducible repeat (first | apply Z3o | apply Z3m | apply Z3n)); exact HO141.out), (by (with_reducible repeat (first | apply Z3o | apply Z3m | apply Z3n)); exact HO_137001.out), (by (with_reducible repeat (first | refine Z3d ?_ _ | refine Z3e ?_ | refine Z3f ?_ _)); exact BK136.out), (by (with_reducible repeat (first | refine Z3d ?_ _ | refine Z3e ?_ | refine Z3f ?_ _)); exact BK143.out), GW143.out, GE143.out, NB136_143.out, NB143_136.out, (by repeat (first | (with_reducible first | exact HB.out | apply Z3k | apply Z3i | apply Z3j | refine Z3l ?_ GE136.out | refine Z3l ?_ GE143.out) | exact HB.out))⟩)
         rintro ⟨v140, gb143⟩ w40 ⟨hS_, h0_, h1_, h2_, h3_, h4_, h5_, h6_, h7_, h8_⟩
         have n0_ : Aside0 (Kd.V k42 42 w40 w.heap.size (fun k_ => k_ ≠ gb136 ∧ k_ ≠ gb143) v140 t139) := ⟨h0_⟩
         have n1_ : Aside0 (Kd.V k42 42 w40 w.heap.size (fun k_ => k_ ≠ gb136 ∧ k_ ≠ gb143) (.slice Ao36 x137001_2.length co36) x137001_2) := ⟨h1_⟩
         have n2_ : Aside0 (w40.heap[gb136]? = some (.cells #[.int .i64 x137000_2, .slice Ao36 x137001_2.length co36] 24 (0, 0))) := ⟨h2_⟩
         have n3_ : Aside0 (w40.heap[gb143]? = some (.cells #[.int .i64 0, .slice none 0 0] 24 (0, 0))) := ⟨h3_⟩
         have n4_ : Aside0 (w.heap.size ≤ gb143) := ⟨h4_⟩
         have n5_ : Aside0 (w.heap.size ≤ gb143) := ⟨h5_⟩
         have n6_ : Aside0 (gb136 ≠ gb143) := ⟨h6_⟩
         have n7_ : Aside0 (gb143 ≠ gb136) := ⟨h7_⟩
         have n8_ : Aside0 (Below w.heap.size w w40) := ⟨h8_⟩
         clear HO_137001
         clear BK136
         clear HB
         clear h0_ h1_ h2_ h3_ h4_ h5_ h6_ h7_ h8_
         have HO141 := n0_
         have HO_137001 := n1_
         have BK136 := n2_
         have BK143 := n3_
         have GW143 := n4_
         have GE143 := n5_
         have NB136_143 := n6_
         have NB143_136 := n7_
         have HB := n8_
         clear n0_ n1_ n2_ n3_ n4_ n5_ n6_ n7_ n8_
         have hHeld : w40.cell? ⟨gb136, 0, none⟩ = some (.int .i64 x137000_2) ∧ w40.cell? ⟨gb136, 1, none⟩ = some (.slice Ao36 x137001_2.length co36) ∧ w40.cell? (ad137.add (x5_2).toNat) = some (.int .i64 (rd l0 x5_2)) := hS_
         obtain ⟨Ao42, co42, eo42⟩ := Kd.V_slice HO141.out
         (first | subst eo42 | (injection eo42 with f1_ f2_ f3_; have f4_ := f1_.symm; have f5_ := f3_.symm; clear f1_ f2_ f3_; subst f4_; subst f5_))
         refine norm_ (a' := ?_) ?_ ?_
         rotate_left
         ·
          simp only [putAll, Act.put, List.setIfInBounds_toArray, List.set_cons_zero, List.set_cons_succ]
          rfl
         refine one_ (i := 11) (N := none) #[true, true, true, true, true, true, true, true, true, true, true, true, false] rfl rfl (one_of HT_.out (by kernel_rfl)) (by decide) (fun K hK => ?_)
         have hs41 : w40.cell? ⟨gb143, 0, none⟩ = some (.int .i64 0) := (Z3p BK143.out 0).trans rfl
         have hfs41 := blk_frozen BK143.out 0
         have hns41_0 := NB136_143.out
         have hms41_0 := NB143_136.out
         have hs43 : w40.cell? ⟨gb143, 1, none⟩ = some (.slice none 0 0) := (Z3p BK143.out 1).trans rfl
         have hfs43 := blk_frozen BK143.out 1
         have hns43_0 := NB136_143.out
         have hms43_0 := NB143_136.out
         refine skip_ (w1 := ?_) (by rfl) rfl ?_ ?_
         rotate_left
         ·
          go_simp
          rfl
         refine hK.out _ _ ⟨((cell_far (p := ⟨gb143, _, none⟩) NB136_143.out _).trans (((cell_far (p := ⟨gb143, _, none⟩) NB136_143.out _).trans (hHeld.1)))), ((cell_far (p := ⟨gb143, _, none⟩) NB136_143.out _).trans (((cell_far (p := ⟨gb143, _, none⟩) NB136_143.out _).trans (hHeld.2.1)))), ((cell_far (p := ⟨gb143, _, none⟩) (by first | exact Nat.ne_of_lt (Z3h (by have := Z3g _ _ hw137_0; first | rwa [add_block] at this | exact this) GW143.out) | (rw [add_block]; exact Nat.ne_of_lt (Z3h (by have := Z3g _ _ hw137_0; first | rwa [add_block] at this | exact this) GW143.out)) | (show (Addr.add _ _).block ≠ _; rw [add_block]; exact Nat.ne_of_lt (Z3h (by have := Z3g _ _ hw137_0; first | rwa [add_block] at this | exact this) GW143.out)) | (dsimp only; exact Nat.ne_of_lt (Z3h (by have := Z3g _ _ hw137_0; first | rwa [add_block] at this | exact this) GW143.out))) _).trans (((cell_far (p := ⟨gb143, _, none⟩) (by first | exact Nat.ne_of_lt (Z3h (by have := Z3g _ _ hw137_0; first | rwa [add_block] at this | exact this) GW143.out) | (rw [add_block]; exact Nat.ne_of_lt (Z3h (by have := Z3g _ _ hw137_0; first | rwa [add_block] at this | exact this) GW143.out)) | (show (Addr.add _ _).block ≠ _; rw [add_block]; exact Nat.ne_of_lt (Z3h (by have := Z3g _ _ hw137_0; first | rwa [add_block] at this | exact this) GW143.out)) | (dsimp only; exact Nat.ne_of_lt (Z3h (by have := Z3g _ _ hw137_0; first | rwa [add_block] at this | exact this) GW143.out))) _).trans (hHeld.2.2))))⟩ (fun hHeld => ?_)
         clear hK K
         refine pure_ (i := 12) (N := some 7) (v := ?_) (a' := ?_) #[true, true, true, true, true, true, true, true, true, true, true, true, true] rfl rfl (any_of HT_.out (by kernel_rfl)) (fun _ _ _ h => h) (Or.inl ⟨by rfl, ?_⟩) ?_ ?_
         rotate_left
         ·
          intro w'
          go_simp
          with_reducible rfl
         rotate_left
         ·
          simp only [Act.put, Z3a, Z3b, Z3c, i64_w, i32_w]
          rfl
         refine done_ (done_of HT_.out (by kernel_rfl)) ?_
         try go_wp2
         go_roundg k2
         case measure => have := HJ2.out; have := HK2.out; omega
         case rel => exact ⟨(wrap64 (x5_2 + 1)), (x137000_2), (x137001_2), (.slice Ao36 x137001_2.length co36), (by first | rfl | (simp; done) | (simp [*]; done)), H', ⟨by have := HJ2.out; have := HK2.out; omega⟩, ⟨by (with_reducible repeat (first | apply Z3o | apply Z3m | apply Z3n)); exact Kd.V_mono (Kd.V_far (p := ⟨gb143, 1, none⟩) (Kd.V_far (p := ⟨gb143, 0, none⟩) (Kd.V_mono HO_137001.out (fun k_ hk => (⟨hk, hk.2⟩ : _ ∧ k_ ≠ gb143))) (fun _ hk => hk.2) (.int .i64 t138)) (fun _ hk => hk.2) (.slice Ao42 t139.length co42)) (fun _ hk => hk.1.1)⟩, ⟨by (with_reducible repeat (first | refine Z3d ?_ _ | refine Z3e ?_ | refine Z3f ?_ _)); refine blk_far ?_ NB136_143.out _; (with_reducible repeat (first | refine Z3d ?_ _ | refine Z3e ?_ | refine Z3f ?_ _)); refine blk_far ?_ NB136_143.out _; (with_reducible repeat (first | refine Z3d ?_ _ | refine Z3e ?_ | refine Z3f ?_ _)); exact BK136.out⟩, ⟨by repeat (first | (with_reducible first | exact HB.out | apply Z3k | apply Z3i | apply Z3j | refine Z3l ?_ GE136.out | refine Z3l ?_ GE143.out) | exact HB.out)⟩⟩
       ·
        rw [if_neg c10] at H
        exact absurd H (by simp)
      ·
       rw [if_neg c9] at H
       have c9b0 : decide (x5_2 < (l0.length : Int)) = false := decide_eq_false c9
       clear c9
       have H' := Aside0.mk H
       clear H
       have hcz44_0 : wr.cell? ⟨gb136, 0, none⟩ = some (.int .i64 x137000_2) := (Z3p BK136.out 0).trans rfl
       have hcz44_1 : wr.cell? ⟨gb136, 1, none⟩ = some (u137001) := (Z3p BK136.out 1).trans rfl
       have hfz44_0 := blk_frozen BK136.out 0
       have hfz44_1 := blk_frozen BK136.out 1
       go_wp2
       go_loopg [8, 9] k2 (fun kq v8 v9 w' => ∃ (x8_3 : Bool) (x9_3 : Int), v8 = .bool x8_3 ∧ v9 = .int .i64 x9_3 ∧ Aside0 (colloquylaw17_WindowLow.l1 kq l0 x8_3 x9_3 x137000_2 x137001_2 = some r) ∧ Aside0 (kq ≤ k2) ∧ Aside0 (Kd.V k42 42 w' w.heap.size (fun k_ => k_ ≠ gb136) u137001 x137001_2) ∧ Aside0 (w'.heap[gb136]? = some (.cells #[.int .i64 x137000_2, u137001] 24 (0, 0))) ∧ Aside0 (Below w.heap.size w w'))
       case atStart => exact ⟨((x137000_2 == 0)), (0), (by first | rfl | (simp; done) | (simp [*]; done)), (by first | rfl | (simp; done) | (simp [*]; done)), H', ⟨Nat.le_refl _⟩, ⟨by (with_reducible repeat (first | apply Z3o | apply Z3m | apply Z3n)); exact HO_137001.out⟩, ⟨by (with_reducible repeat (first | refine Z3d ?_ _ | refine Z3e ?_ | refine Z3f ?_ _)); exact BK136.out⟩, ⟨by repeat (first | (with_reducible first | exact HB.out | apply Z3k | apply Z3i | apply Z3j | refine Z3l ?_ GE136.out) | exact HB.out)⟩⟩
       case round =>
        clear H'
        try clear c1
        try clear p1
        try clear q1
        try clear hx1
        try clear p2
        try clear c3
        try clear p6
        try clear c9
        try clear c9b0
        try clear c10
        try clear c12
        try clear c12b0
        try clear c12b1
        try clear p13
        try clear q13
        try clear hx13
        try clear c33
        try clear hcz34_0
        try clear hcz34_1
        try clear hcz35_0
        try clear hcz35_1
        try clear hcz44_0
        try clear hcz44_1
        try clear hfz34_0
        try clear hfz34_1
        try clear hfz35_0
        try clear hfz35_1
        try clear hfz44_0
        try clear hfz44_1
        try clear hx137_0
        try clear p137
        try clear q137
        obtain ⟨x8_3, x9_3, rfl, rfl, HA, HK3, HO_137001, BK136, HB⟩ := hrel
        cases gk with
        | zero => exact absurd HA.out (by simp [colloquylaw17_WindowLow.l1])
        | succ k3 =>
         have H := HA.out
         clear HA
         simp only [colloquylaw17_WindowLow.l1] at H
         by_cases c45 : x9_3 < (l0.length : Int)
         ·
          rw [if_pos c45] at H
          have c45b0 : decide (x9_3 < (l0.length : Int)) = true := decide_eq_true c45
          clear c45
          by_cases c46 : x8_3 = true
          ·
           subst c46
           have H1 : (colloquylaw17_WindowLow.l1 k3 l0 true (wrap64 (x9_3 + 1)) x137000_2 x137001_2) = some r := by rw [if_pos rfl] at H; exact H
           clear H
           have H := H1
           clear H1
           have H' := Aside0.mk H
           clear H
           try go_wp2
           have n0_ := Aside0.mk (Z3n HO_137001.out)
           have n1_ := Aside0.mk (Z3e BK136.out)
           have n2_ := Aside0.mk (Z3j HB.out)
           clear HO_137001
           clear BK136
           clear HB
           have HO_137001 := n0_
           have BK136 := n1_
           have HB := n2_
           clear n0_ n1_ n2_
           refine start_ (n := 11) (S := fun w' => True) (ds := []) #[false, false, false, false, false, false, false, false, false, false, false] (by kernel_rfl) rfl rfl trivial (fun hHeld => ?_); refine with_tabW colloquylaw17_WindowLow.tab17 colloquylaw17_WindowLow.bits17 (fun HT_ HW_ => ?_)
           generalize wr.drew = w47 at HO_137001 BK136 HB hHeld ⊢
           refine pure_ (i := 0) (N := some 56) (v := ?_) (a' := ?_) #[true, false, false, false, false, false, false, false, false, false, false] rfl rfl (any_of HT_.out (by kernel_rfl)) (fun _ _ _ h => h) (Or.inl ⟨by rfl, ?_⟩) ?_ ?_
           rotate_left
           ·
            intro w'
            go_simp
            with_reducible rfl
           rotate_left
           ·
            simp only [Act.put, Z3a, Z3b, Z3c, i64_w, i32_w]
            rfl
           refine pure_ (i := 1) (N := some 57) (v := ?_) (a' := ?_) #[true, true, false, false, false, false, false, false, false, false, false] rfl rfl (any_of HT_.out (by kernel_rfl)) (fun _ _ _ h => h) (Or.inl ⟨by rfl, ?_⟩) ?_ ?_
           rotate_left
           ·
            intro w'
            go_simp
            with_reducible rfl
           rotate_left
           ·
            simp only [Act.put, Z3a, Z3b, Z3c, i64_w, i32_w]
            rfl
           refine pure_ (i := 2) (N := some 58) (v := undef) (a' := ?_) #[true, true, true, false, false, false, false, false, false, false, false] rfl rfl (any_of HT_.out (by kernel_rfl)) (fun _ _ _ h => h) (Or.inr ⟨by rfl, rfl⟩) ?_ ?_
           rotate_left
           ·
            simp only [Act.put, Z3a, Z3b, Z3c, i64_w, i32_w]
            rfl
           refine pure_ (i := 3) (N := some 59) (v := undef) (a' := ?_) #[true, true, true, true, false, false, false, false, false, false, false] rfl rfl (any_of HT_.out (by kernel_rfl)) (fun _ _ _ h => h) (Or.inr ⟨by rfl, rfl⟩) ?_ ?_
           rotate_left
           ·
            simp only [Act.put, Z3a, Z3b, Z3c, i64_w, i32_w]
            rfl
           refine pure_ (i := 4) (N := some 60) (v := undef) (a' := ?_) #[true, true, true, true, true, false, false, false, false, false, false] rfl rfl (any_of HT_.out (by kernel_rfl)) (fun _ _ _ h => h) (Or.inr ⟨by rfl, rfl⟩) ?_ ?_
           rotate_left
           ·
            simp only [Act.put, Z3a, Z3b, Z3c, i64_w, i32_w]
            rfl
           refine pure_ (i := 5) (N := some 61) (v := undef) (a' := ?_) #[true, true, true, true, true, true, false, false, false, false, false] rfl rfl (any_of HT_.out (by kernel_rfl)) (fun _ _ _ h => h) (Or.inr ⟨by rfl, rfl⟩) ?_ ?_
           rotate_left
           ·
            simp only [Act.put, Z3a, Z3b, Z3c, i64_w, i32_w]
            rfl
           refine pure_ (i := 6) (N := some 62) (v := undef) (a' := ?_) #[true, true, true, true, true, true, true, false, false, false, false] rfl rfl (any_of HT_.out (by kernel_rfl)) (fun _ _ _ h => h) (Or.inr ⟨by rfl, rfl⟩) ?_ ?_
           rotate_left
           ·
            simp only [Act.put, Z3a, Z3b, Z3c, i64_w, i32_w]
            rfl
           refine pure_ (i := 7) (N := some 63) (v := undef) (a' := ?_) #[true, true, true, true, true, true, true, true, false, false, false] rfl rfl (any_of HT_.out (by kernel_rfl)) (fun _ _ _ h => h) (Or.inr ⟨by rfl, rfl⟩) ?_ ?_
           rotate_left
           ·
            simp only [Act.put, Z3a, Z3b, Z3c, i64_w, i32_w]
            rfl
           refine pure_ (i := 8) (N := some 64) (v := undef) (a' := ?_) #[true, true, true, true, true, true, true, true, true, false, false] rfl rfl (any_of HT_.out (by kernel_rfl)) (fun _ _ _ h => h) (Or.inr ⟨by rfl, rfl⟩) ?_ ?_
           rotate_left
           ·
            simp only [Act.put, Z3a, Z3b, Z3c, i64_w, i32_w]
            rfl
           refine pure_ (i := 9) (N := some 65) (v := ?_) (a' := ?_) #[true, true, true, true, true, true, true, true, true, true, false] rfl rfl (any_of HT_.out (by kernel_rfl)) (fun _ _ _ h => h) (Or.inl ⟨by rfl, ?_⟩) ?_ ?_
           rotate_left
           ·
            intro w'
            go_simp
            with_reducible rfl
           rotate_left
           ·
            simp only [Act.put, Z3a, Z3b, Z3c, i64_w, i32_w]
            rfl
           refine pure_ (i := 10) (N := some 8) (v := ?_) (a' := ?_) #[true, true, true, true, true, true, true, true, true, true, true] rfl rfl (any_of HT_.out (by kernel_rfl)) (fun _ _ _ h => h) (Or.inl ⟨by rfl, ?_⟩) ?_ ?_
           rotate_left
           ·
            intro w'
            go_simp
            with_reducible rfl
           rotate_left
           ·
            simp only [Act.put, Z3a, Z3b, Z3c, i64_w, i32_w]
            rfl
           refine done_ (done_of HT_.out (by kernel_rfl)) ?_
           try go_wp2
           go_roundg k3
           case measure => have := HJ2.out; have := HK2.out; have := HK3.out; omega
           case rel => exact ⟨(true), (wrap64 (x9_3 + 1)), (by first | rfl | (simp; done) | (simp [*]; done)), (by first | rfl | (simp; done) | (simp [*]; done)), H', ⟨by have := HJ2.out; have := HK2.out; have := HK3.out; omega⟩, ⟨by (with_reducible repeat (first | apply Z3o | apply Z3m | apply Z3n)); exact HO_137001.out⟩, ⟨by (with_reducible repeat (first | refine Z3d ?_ _ | refine Z3e ?_ | refine Z3f ?_ _)); exact BK136.out⟩, ⟨by repeat (first | (with_reducible first | exact HB.out | apply Z3k | apply Z3i | apply Z3j | refine Z3l ?_ GE136.out) | exact HB.out)⟩⟩
          ·
           replace c46 := Bool.eq_false_iff.mpr c46
           subst c46
           have H1 : (if 0 ≤ x9_3 then (colloquylaw17_WindowLow.l1 k3 l0 ((rd l0 x9_3) == x137000_2) (wrap64 (x9_3 + 1)) x137000_2 x137001_2) else (none)) = some r := by rw [if_neg (show ¬ (false = true) by decide)] at H; exact H
           clear H
           have H := H1
           clear H1
           by_cases c48 : 0 ≤ x9_3
           ·
            rw [if_pos c48] at H
            have c48b0 : decide (0 ≤ x9_3) = true := decide_eq_true c48
            clear c48
            have H' := Aside0.mk H
            clear H
            try go_wp2
            have n0_ := Aside0.mk (Z3n HO_137001.out)
            have n1_ := Aside0.mk (Z3e BK136.out)
            have n2_ := Aside0.mk (Z3j HB.out)
            clear HO_137001
            clear BK136
            clear HB
            have HO_137001 := n0_
            have BK136 := n1_
            have HB := n2_
            clear n0_ n1_ n2_
            have p144 : 0 ≤ (x9_3 : Int) := of_decide_eq_true (by first | (with_reducible assumption) | assumption)
            have q144 : x9_3 < (l0.length : Int) := of_decide_eq_true (by first | (with_reducible assumption) | assumption)
            obtain ⟨ad144, e144, hx144_0⟩ := Kd.at_int HR0.out x9_3 p144 q144
            have hw144_0 := hx144_0
            cases e144
            replace hx144_0 := (HB.out.cell (Z3g w _ hx144_0)).trans hx144_0
            replace p144 := eq_true p144
            replace q144 := eq_true q144
            refine start_ (n := 11) (S := fun w' => w'.cell? ⟨gb136, 0, none⟩ = some (.int .i64 x137000_2) ∧ w'.cell? ⟨gb136, 1, none⟩ = some (u137001) ∧ w'.cell? (ad144.add (x9_3).toNat) = some (.int .i64 (rd l0 x9_3))) (ds := []) #[false, false, false, false, false, false, false, false, false, false, false] (by kernel_rfl) rfl rfl ⟨(Z3p BK136.out 0).trans rfl, (Z3p BK136.out 1).trans rfl, ((HB.out.cell (Z3g w _ hw144_0)).trans hw144_0)⟩ (fun hHeld => ?_); refine with_tabW colloquylaw17_WindowLow.tab17 colloquylaw17_WindowLow.bits17 (fun HT_ HW_ => ?_)
            generalize wr.drew = w49 at HO_137001 BK136 HB hx144_0 hHeld ⊢
            refine pure_ (i := 0) (N := some 56) (v := ?_) (a' := ?_) #[true, false, false, false, false, false, false, false, false, false, false] rfl rfl (any_of HT_.out (by kernel_rfl)) (fun _ _ _ h => h) (Or.inl ⟨by rfl, ?_⟩) ?_ ?_
            rotate_left
            ·
             intro w'
             go_simp
             with_reducible rfl
            rotate_left
            ·
             simp only [Act.put, Z3a, Z3b, Z3c, i64_w, i32_w]
             rfl
            refine pure_ (i := 1) (N := some 57) (v := ?_) (a' := ?_) #[true, true, false, false, false, false, false, false, false, false, false] rfl rfl (any_of HT_.out (by kernel_rfl)) (fun _ _ _ h => h) (Or.inl ⟨by rfl, ?_⟩) ?_ ?_
            rotate_left
            ·
             intro w'
             go_simp
             with_reducible rfl
            rotate_left
            ·
             simp only [Act.put, Z3a, Z3b, Z3c, i64_w, i32_w]
             rfl
            refine pure_ (i := 2) (N := some 58) (v := ?_) (a' := ?_) #[true, true, true, false, false, false, false, false, false, false, false] rfl rfl (any_of HT_.out (by kernel_rfl)) (fun _ _ _ h => h) (Or.inl ⟨by rfl, ?_⟩) ?_ ?_
            rotate_left
            ·
             intro w'
             go_simp
             with_reducible rfl
            rotate_left
            ·
             simp only [Act.put, Z3a, Z3b, Z3c, i64_w, i32_w]
             rfl
            refine pure_ (i := 3) (N := some 59) (v := ?_) (a' := ?_) #[true, true, true, true, false, false, false, false, false, false, false] rfl rfl (any_of HT_.out (by kernel_rfl)) (fun _ _ _ h => h) (Or.inl ⟨by rfl, ?_⟩) ?_ ?_
            rotate_left
            ·
             intro w'
             go_simp
             with_reducible rfl
            rotate_left
            ·
             simp only [Act.put, Z3a, Z3b, Z3c, i64_w, i32_w]
             rfl
            refine pure_ (i := 4) (N := some 60) (v := ?_) (a' := ?_) #[true, true, true, true, true, false, false, false, false, false, false] rfl rfl (any_of HT_.out (by kernel_rfl)) (fun _ _ _ h => h) (Or.inl ⟨by rfl, ?_⟩) ?_ ?_
            rotate_left
            ·
             intro w'
             go_simp
             with_reducible rfl
            rotate_left
            ·
             simp only [Act.put, Z3a, Z3b, Z3c, i64_w, i32_w]
             rfl
            refine pure_ (i := 6) (N := some 62) (v := ?_) (a' := ?_) #[true, true, true, true, true, false, true, false, false, false, false] rfl rfl (any_of HT_.out (by kernel_rfl)) (fun _ _ _ h => h) (Or.inl ⟨by rfl, ?_⟩) ?_ ?_
            rotate_left
            ·
             intro w'
             go_simp
             with_reducible rfl
            rotate_left
            ·
             simp only [Act.put, Z3a, Z3b, Z3c, i64_w, i32_w]
             rfl
            refine take_ (i := 5) (N := some 61) (v := ?_) (a' := ?_) #[true, true, true, true, true, true, true, false, false, false, false] rfl rfl (take_ofW HT_.out HW_.out (by kernel_rfl)) (fun _ _ _ h => h) (Or.inl ⟨by rfl, ?_⟩) hHeld ?_ ?_
            rotate_left
            ·
             rintro w' ⟨s0, s1, s2⟩
             go_simp
             with_reducible rfl
            rotate_left
            ·
             simp only [Act.put, Z3a, Z3b, Z3c, i64_w, i32_w]
             rfl
            refine take_ (i := 7) (N := some 63) (v := ?_) (a' := ?_) #[true, true, true, true, true, true, true, true, false, false, false] rfl rfl (take_ofW HT_.out HW_.out (by kernel_rfl)) (fun _ _ _ h => h) (Or.inl ⟨by rfl, ?_⟩) hHeld ?_ ?_
            rotate_left
            ·
             rintro w' ⟨s0, s1, s2⟩
             go_simp
             with_reducible rfl
            rotate_left
            ·
             simp only [Act.put, Z3a, Z3b, Z3c, i64_w, i32_w]
             rfl
            refine pure_ (i := 8) (N := some 64) (v := ?_) (a' := ?_) #[true, true, true, true, true, true, true, true, true, false, false] rfl rfl (any_of HT_.out (by kernel_rfl)) (fun _ _ _ h => h) (Or.inl ⟨by rfl, ?_⟩) ?_ ?_
            rotate_left
            ·
             intro w'
             go_simp
             with_reducible rfl
            rotate_left
            ·
             simp only [Act.put, Z3a, Z3b, Z3c, i64_w, i32_w]
             rfl
            refine pure_ (i := 9) (N := some 65) (v := ?_) (a' := ?_) #[true, true, true, true, true, true, true, true, true, true, false] rfl rfl (any_of HT_.out (by kernel_rfl)) (fun _ _ _ h => h) (Or.inl ⟨by rfl, ?_⟩) ?_ ?_
            rotate_left
            ·
             intro w'
             go_simp
             with_reducible rfl
            rotate_left
            ·
             simp only [Act.put, Z3a, Z3b, Z3c, i64_w, i32_w]
             rfl
            refine pure_ (i := 10) (N := some 8) (v := ?_) (a' := ?_) #[true, true, true, true, true, true, true, true, true, true, true] rfl rfl (any_of HT_.out (by kernel_rfl)) (fun _ _ _ h => h) (Or.inl ⟨by rfl, ?_⟩) ?_ ?_
            rotate_left
            ·
             intro w'
             go_simp
             with_reducible rfl
            rotate_left
            ·
             simp only [Act.put, Z3a, Z3b, Z3c, i64_w, i32_w]
             rfl
            refine done_ (done_of HT_.out (by kernel_rfl)) ?_
            try go_wp2
            go_roundg k3
            case measure => have := HJ2.out; have := HK2.out; have := HK3.out; omega
            case rel => exact ⟨(((rd l0 x9_3) == x137000_2)), (wrap64 (x9_3 + 1)), (by first | rfl | (simp; done) | (simp [*]; done)), (by first | rfl | (simp; done) | (simp [*]; done)), H', ⟨by have := HJ2.out; have := HK2.out; have := HK3.out; omega⟩, ⟨by (with_reducible repeat (first | apply Z3o | apply Z3m | apply Z3n)); exact HO_137001.out⟩, ⟨by (with_reducible repeat (first | refine Z3d ?_ _ | refine Z3e ?_ | refine Z3f ?_ _)); exact BK136.out⟩, ⟨by repeat (first | (with_reducible first | exact HB.out | apply Z3k | apply Z3i | apply Z3j | refine Z3l ?_ GE136.out) | exact HB.out)⟩⟩
           ·
            rw [if_neg c48] at H
            exact absurd H (by simp)
         ·
          rw [if_neg c45] at H
          have c45b0 : decide (x9_3 < (l0.length : Int)) = false := decide_eq_false c45
          clear c45
          replace H := Option.bind_eq_some_iff.mp H
          obtain ⟨⟨t145, t146, t147, t148, t149⟩, A500, H⟩ := H
          replace H : (if x8_3 = true then ((window_May.f k3 x137000_2 x137001_2).bind fun t151 => (if t151 = true then (if t149 = 0 then (some true) else (some (x137000_2 == 1073741824))) else (some false))) else (some false)) = some r := H
          have A50 := Aside0.mk A500
          clear A500
          by_cases c51 : x8_3 = true
          ·
           subst c51
           have H1 : ((window_May.f k3 x137000_2 x137001_2).bind fun t151 => (if t151 = true then (if t149 = 0 then (some true) else (some (x137000_2 == 1073741824))) else (some false))) = some r := by rw [if_pos rfl] at H; exact H
           clear H
           have H := H1
           clear H1
           replace H := Option.bind_eq_some_iff.mp H
           obtain ⟨t151, A520, H⟩ := H
           replace H : (if t151 = true then (if t149 = 0 then (some true) else (some (x137000_2 == 1073741824))) else (some false)) = some r := H
           have A52 := Aside0.mk A520
           clear A520
           by_cases c53 : t151 = true
           ·
            subst c53
            have H1 : (if t149 = 0 then (some true) else (some (x137000_2 == 1073741824))) = some r := by rw [if_pos rfl] at H; exact H
            clear H
            have H := H1
            clear H1
            by_cases c54 : t149 = 0
            ·
             rw [if_pos c54] at H
             have c54b0 : (t149 == 0) = true := beq_iff_eq.mpr c54
             have c54b1 : (t149 != 0) = false := bne_eq_false_iff_eq.mpr c54
             clear c54
             obtain rfl := Option.some.inj H
             have hcz55_0 : wr.cell? ⟨gb136, 0, none⟩ = some (.int .i64 x137000_2) := (Z3p BK136.out 0).trans rfl
             have hcz55_1 : wr.cell? ⟨gb136, 1, none⟩ = some (u137001) := (Z3p BK136.out 1).trans rfl
             have hfz55_0 := blk_frozen BK136.out 0
             have hfz55_1 := blk_frozen BK136.out 1
             obtain ⟨Ao56, co56, eo56⟩ := Kd.V_slice HO_137001.out
             subst eo56
             go_wp2_with (first | ((with_reducible refine gate_callee (f := 10) rfl ?_); refine goesL_ (some 71) rfl rfl Try.func10 (by kernel_rfl) rfl #[.agg #[.int .i64 x137000_2, .slice Ao56 x137001_2.length co56], .int .i64 (wrap64 (x137000_2 + 1))] rfl (by (try simp only [List.map_toArray, List.map_cons, List.map_nil]); first | done | rfl | (simp only [List.length_drop, List.length_take]; rfl)) ?_; (with_reducible refine (window_Look.calls k3 x137000_2 _ _ x137001_2 (wrap64 (x137000_2 + 1)) t145 t146 t147 t148 t149 _ ?side1 ?side2 A50.out).mono ?_); (case side1 => repeat (first | exact (Kd.V_reads' HO_137001.out).2.2 | (with_reducible refine Kd.C_alloc ?_ _) | (with_reducible refine Kd.C_drewN ?_ _) | (with_reducible refine Kd.C_drew ?_))); (case side2 => exact (Kd.V_reads' HO_137001.out).2.1); rintro e w57 ⟨rfl, hb⟩; refine ⟨_, rfl, ?_⟩; have n0_ := Aside0.mk (Kd.V_below (by (with_reducible repeat (first | apply Z3o | apply Z3m | apply Z3n)); exact HO_137001.out) hb); have n1_ := Aside0.mk (blk_below (g := gb136) (o := .cells #[.int .i64 x137000_2, .slice Ao56 x137001_2.length co56] 24 (0, 0)) (by (with_reducible repeat (first | refine Z3d ?_ _ | refine Z3e ?_ | refine Z3f ?_ _)); exact BK136.out) hb); have n2_ := Aside0.mk (below_step (by repeat (first | (with_reducible first | exact HB.out | apply Z3k | apply Z3i | apply Z3j | refine Z3l ?_ GE136.out) | exact HB.out)) hb); clear HO_137001; clear BK136; clear HB; have HO_137001 := n0_; have BK136 := n1_; have HB := n2_; clear n0_ n1_ n2_; (try clear hb); (try clear hb2); (try clear hk); (try clear hi)) | ((with_reducible refine gate_dst (N := 10) rfl ?_); (try (refine gate_guard (by rfl) ?_; dsimp only)); refine box_event ?hg (N := 10) ?hd (cs := #[.int .i64 0, .int .i64 0, .string (⟨#[]⟩ : ByteArray)]) (t := 27) ?hr ?_; (case hd => rfl); (case hg => rfl); (case hr => first | (go_simp; done) | (go_simp; rfl)); intro gb150 hg w58 hbox hb; have n0_ := Aside0.mk (Kd.V_below (Kd.V_elderB (by (with_reducible repeat (first | apply Z3o | apply Z3m | apply Z3n)); exact HO_137001.out) gb150 (Nat.le_of_eq hg.symm)) hb); have n1_ := Aside0.mk (blk_below (g := gb136) (o := .cells #[.int .i64 x137000_2, .slice Ao56 x137001_2.length co56] 24 (0, 0)) (by (with_reducible repeat (first | refine Z3d ?_ _ | refine Z3e ?_ | refine Z3f ?_ _)); exact BK136.out) hb); have n2_ := Aside0.mk (below_step (by repeat (first | (with_reducible first | exact HB.out | apply Z3k | apply Z3i | apply Z3j | refine Z3l ?_ GE136.out) | exact HB.out)) hb); have n3_ := Aside0.mk (hbox); have n4_ := Aside0.mk ((by rw [hg]; exact (below_size (by repeat (first | (with_reducible first | exact HB.out | apply Z3k | apply Z3i | apply Z3j | refine Z3l ?_ GE136.out) | exact HB.out))) : w.heap.size ≤ gb150)); have n5_ := Aside0.mk ((by rw [hg]; exact (below_size (by repeat (first | (with_reducible first | exact HB.out | apply Z3k | apply Z3i | apply Z3j | refine Z3l ?_ GE136.out) | exact HB.out))) : w.heap.size ≤ gb150)); have n6_ := Aside0.mk ((by rw [hg]; exact Nat.ne_of_lt (blk_lt (g := gb136) (o := .cells #[.int .i64 x137000_2, .slice Ao56 x137001_2.length co56] 24 (0, 0)) (by (with_reducible repeat (first | refine Z3d ?_ _ | refine Z3e ?_ | refine Z3f ?_ _)); exact BK136.out)) : gb136 ≠ gb150)); have n7_ := Aside0.mk ((by rw [hg]; exact Nat.ne_of_gt (blk_lt (g := gb136) (o := .cells #[.int .i64 x137000_2, .slice Ao56 x137001_2.length co56] 24 (0, 0)) (by (with_reducible repeat (first | refine Z3d ?_ _ | refine Z3e ?_ | refine Z3f ?_ _)); exact BK136.out)) : gb150 ≠ gb136)); clear HO_137001; clear BK136; clear HB; have HO_137001 := n0_; have BK136 := n1_; have HB := n2_; have BK150 := n3_; have GW150 := n4_; have GE150 := n5_; have NB136_150 := n6_; have NB150_136 := n7_; clear n0_ n1_ n2_ n3_ n4_ n5_ n6_ n7_; clear hb hbox hg; have hnb59 := NB150_136.out; have hnc59 := NB136_150.out; have hcz60_0 : w58.cell? ⟨gb150, 0, none⟩ = some (.int .i64 0) := (Z3p BK150.out 0).trans rfl; have hcz60_1 : w58.cell? ⟨gb150, 1, none⟩ = some (.int .i64 0) := (Z3p BK150.out 1).trans rfl; have hcz60_2 : w58.cell? ⟨gb150, 2, none⟩ = some (.string (⟨#[]⟩ : ByteArray)) := (Z3p BK150.out 2).trans rfl; have hfz60_0 := blk_frozen BK150.out 0; have hfz60_1 := blk_frozen BK150.out 1; have hfz60_2 := blk_frozen BK150.out 2; have hcz61_0 : w58.cell? ⟨gb136, 0, none⟩ = some (.int .i64 x137000_2) := (Z3p BK136.out 0).trans rfl; have hcz61_1 : w58.cell? ⟨gb136, 1, none⟩ = some (.slice Ao56 x137001_2.length co56) := (Z3p BK136.out 1).trans rfl; have hfz61_0 := blk_frozen BK136.out 0; have hfz61_1 := blk_frozen BK136.out 1) | (go_at_call 15; (with_reducible refine (window_May.calls k3 x137000_2 _ _ x137001_2 true _ ?side1 ?side2 A52.out).mono ?_); (case side1 => refine (Kd.V_reads' (e := 42) (base := w.heap.size) (ok := fun k_ => (k_ ≠ gb136 ∧ k_ ≠ gb150)) (n := x137001_2.length) (c := co56) ?_).2.2; exact (by (with_reducible repeat (first | apply Z3o | apply Z3m | apply Z3n)); exact (Kd.V_mono (Kd.V_far (p := ⟨gb150, 2, none⟩) (Kd.V_far (p := ⟨gb150, 1, none⟩) (Kd.V_far (p := ⟨gb150, 0, none⟩) (Kd.V_mono HO_137001.out (fun k_ hk => (⟨hk, hk.2⟩ : _ ∧ k_ ≠ gb150))) (fun _ hk => hk.2) (.int .i64 t145)) (fun _ hk => hk.2) (.int .i64 t146)) (fun _ hk => hk.2) (.string t147)) (fun _ h_ => h_.1)))); (case side2 => exact (Kd.V_reads' HO_137001.out).2.1); rintro e w62 ⟨rfl, hb⟩; have n0_ := Aside0.mk (Kd.V_below (by (with_reducible repeat (first | apply Z3o | apply Z3m | apply Z3n)); exact (Kd.V_mono (Kd.V_far (p := ⟨gb150, 2, none⟩) (Kd.V_far (p := ⟨gb150, 1, none⟩) (Kd.V_far (p := ⟨gb150, 0, none⟩) (Kd.V_mono HO_137001.out (fun k_ hk => (⟨hk, hk.2⟩ : _ ∧ k_ ≠ gb150))) (fun _ hk => hk.2) (.int .i64 t145)) (fun _ hk => hk.2) (.int .i64 t146)) (fun _ hk => hk.2) (.string t147)) (fun _ h_ => h_.1))) hb); have n1_ := Aside0.mk (blk_below (g := gb136) (o := .cells #[.int .i64 x137000_2, .slice Ao56 x137001_2.length co56] 24 (0, 0)) (by (with_reducible repeat (first | refine Z3d ?_ _ | refine Z3e ?_ | refine Z3f ?_ _)); refine blk_far ?_ NB136_150.out _; (with_reducible repeat (first | refine Z3d ?_ _ | refine Z3e ?_ | refine Z3f ?_ _)); refine blk_far ?_ NB136_150.out _; (with_reducible repeat (first | refine Z3d ?_ _ | refine Z3e ?_ | refine Z3f ?_ _)); refine blk_far ?_ NB136_150.out _; (with_reducible repeat (first | refine Z3d ?_ _ | refine Z3e ?_ | refine Z3f ?_ _)); exact BK136.out) hb); have n2_ := Aside0.mk (blk_below (g := gb150) (o := .cells #[.int .i64 t145, .int .i64 t146, .string t147] 27 (0, 0)) (by (with_reducible repeat (first | refine Z3d ?_ _ | refine Z3e ?_ | refine Z3f ?_ _)); refine blk_put (cs := #[.int .i64 t145, .int .i64 t146, .string (⟨#[]⟩ : ByteArray)]) ?_ 2 _ rfl; (with_reducible repeat (first | refine Z3d ?_ _ | refine Z3e ?_ | refine Z3f ?_ _)); refine blk_put (cs := #[.int .i64 t145, .int .i64 0, .string (⟨#[]⟩ : ByteArray)]) ?_ 1 _ rfl; (with_reducible repeat (first | refine Z3d ?_ _ | refine Z3e ?_ | refine Z3f ?_ _)); refine blk_put (cs := #[.int .i64 0, .int .i64 0, .string (⟨#[]⟩ : ByteArray)]) ?_ 0 _ rfl; (with_reducible repeat (first | refine Z3d ?_ _ | refine Z3e ?_ | refine Z3f ?_ _)); exact BK150.out) hb); have n3_ := Aside0.mk (below_step (by repeat (first | (with_reducible first | exact HB.out | apply Z3k | apply Z3i | apply Z3j | refine Z3l ?_ GE136.out | refine Z3l ?_ GE150.out) | exact HB.out)) hb); clear HO_137001; clear BK136; clear BK150; clear HB; have HO_137001 := n0_; have BK136 := n1_; have BK150 := n2_; have HB := n3_; clear n0_ n1_ n2_ n3_; (try clear hb); (try clear hb2); (try clear hk); (try clear hi)))
             go_ret
             exact ⟨by first | rfl | (simp [errW_none, errW_some] <;> rfl) | (simp [*, errW_none, errW_some] <;> rfl), by repeat (first | (with_reducible first | exact HB.out | apply Z3k | apply Z3i | apply Z3j | refine Z3l ?_ GE136.out | refine Z3l ?_ GE150.out) | exact HB.out)⟩
            ·
             rw [if_neg c54] at H
             have c54b0 : (t149 == 0) = false := beq_eq_false_iff_ne.mpr c54
             have c54b1 : (t149 != 0) = true := bne_iff_ne.mpr c54
             obtain rfl := Option.some.inj H
             have hcz63_0 : wr.cell? ⟨gb136, 0, none⟩ = some (.int .i64 x137000_2) := (Z3p BK136.out 0).trans rfl
             have hcz63_1 : wr.cell? ⟨gb136, 1, none⟩ = some (u137001) := (Z3p BK136.out 1).trans rfl
             have hfz63_0 := blk_frozen BK136.out 0
             have hfz63_1 := blk_frozen BK136.out 1
             obtain ⟨Ao64, co64, eo64⟩ := Kd.V_slice HO_137001.out
             subst eo64
             go_wp2_with (first | ((with_reducible refine gate_callee (f := 10) rfl ?_); refine goesL_ (some 71) rfl rfl Try.func10 (by kernel_rfl) rfl #[.agg #[.int .i64 x137000_2, .slice Ao64 x137001_2.length co64], .int .i64 (wrap64 (x137000_2 + 1))] rfl (by (try simp only [List.map_toArray, List.map_cons, List.map_nil]); first | done | rfl | (simp only [List.length_drop, List.length_take]; rfl)) ?_; (with_reducible refine (window_Look.calls k3 x137000_2 _ _ x137001_2 (wrap64 (x137000_2 + 1)) t145 t146 t147 t148 t149 _ ?side1 ?side2 A50.out).mono ?_); (case side1 => repeat (first | exact (Kd.V_reads' HO_137001.out).2.2 | (with_reducible refine Kd.C_alloc ?_ _) | (with_reducible refine Kd.C_drewN ?_ _) | (with_reducible refine Kd.C_drew ?_))); (case side2 => exact (Kd.V_reads' HO_137001.out).2.1); rintro e w65 ⟨rfl, hb⟩; refine ⟨_, rfl, ?_⟩; have n0_ := Aside0.mk (Kd.V_below (by (with_reducible repeat (first | apply Z3o | apply Z3m | apply Z3n)); exact HO_137001.out) hb); have n1_ := Aside0.mk (blk_below (g := gb136) (o := .cells #[.int .i64 x137000_2, .slice Ao64 x137001_2.length co64] 24 (0, 0)) (by (with_reducible repeat (first | refine Z3d ?_ _ | refine Z3e ?_ | refine Z3f ?_ _)); exact BK136.out) hb); have n2_ := Aside0.mk (below_step (by repeat (first | (with_reducible first | exact HB.out | apply Z3k | apply Z3i | apply Z3j | refine Z3l ?_ GE136.out) | exact HB.out)) hb); clear HO_137001; clear BK136; clear HB; have HO_137001 := n0_; have BK136 := n1_; have HB := n2_; clear n0_ n1_ n2_; (try clear hb); (try clear hb2); (try clear hk); (try clear hi)) | ((with_reducible refine gate_dst (N := 10) rfl ?_); (try (refine gate_guard (by rfl) ?_; dsimp only)); refine box_event ?hg (N := 10) ?hd (cs := #[.int .i64 0, .int .i64 0, .string (⟨#[]⟩ : ByteArray)]) (t := 27) ?hr ?_; (case hd => rfl); (case hg => rfl); (case hr => first | (go_simp; done) | (go_simp; rfl)); intro gb150 hg w66 hbox hb; have n0_ := Aside0.mk (Kd.V_below (Kd.V_elderB (by (with_reducible repeat (first | apply Z3o | apply Z3m | apply Z3n)); exact HO_137001.out) gb150 (Nat.le_of_eq hg.symm)) hb); have n1_ := Aside0.mk (blk_below (g := gb136) (o := .cells #[.int .i64 x137000_2, .slice Ao64 x137001_2.length co64] 24 (0, 0)) (by (with_reducible repeat (first | refine Z3d ?_ _ | refine Z3e ?_ | refine Z3f ?_ _)); exact BK136.out) hb); have n2_ := Aside0.mk (below_step (by repeat (first | (with_reducible first | exact HB.out | apply Z3k | apply Z3i | apply Z3j | refine Z3l ?_ GE136.out) | exact HB.out)) hb); have n3_ := Aside0.mk (hbox); have n4_ := Aside0.mk ((by rw [hg]; exact (below_size (by repeat (first | (with_reducible first | exact HB.out | apply Z3k | apply Z3i | apply Z3j | refine Z3l ?_ GE136.out) | exact HB.out))) : w.heap.size ≤ gb150)); have n5_ := Aside0.mk ((by rw [hg]; exact (below_size (by repeat (first | (with_reducible first | exact HB.out | apply Z3k | apply Z3i | apply Z3j | refine Z3l ?_ GE136.out) | exact HB.out))) : w.heap.size ≤ gb150)); have n6_ := Aside0.mk ((by rw [hg]; exact Nat.ne_of_lt (blk_lt (g := gb136) (o := .cells #[.int .i64 x137000_2, .slice Ao64 x137001_2.length co64] 24 (0, 0)) (by (with_reducible repeat (first | refine Z3d ?_ _ | refine Z3e ?_ | refine Z3f ?_ _)); exact BK136.out)) : gb136 ≠ gb150)); have n7_ := Aside0.mk ((by rw [hg]; exact Nat.ne_of_gt (blk_lt (g := gb136) (o := .cells #[.int .i64 x137000_2, .slice Ao64 x137001_2.length co64] 24 (0, 0)) (by (with_reducible repeat (first | refine Z3d ?_ _ | refine Z3e ?_ | refine Z3f ?_ _)); exact BK136.out)) : gb150 ≠ gb136)); clear HO_137001; clear BK136; clear HB; have HO_137001 := n0_; have BK136 := n1_; have HB := n2_; have BK150 := n3_; have GW150 := n4_; have GE150 := n5_; have NB136_150 := n6_; have NB150_136 := n7_; clear n0_ n1_ n2_ n3_ n4_ n5_ n6_ n7_; clear hb hbox hg; have hnb67 := NB150_136.out; have hnc67 := NB136_150.out; have hcz68_0 : w66.cell? ⟨gb150, 0, none⟩ = some (.int .i64 0) := (Z3p BK150.out 0).trans rfl; have hcz68_1 : w66.cell? ⟨gb150, 1, none⟩ = some (.int .i64 0) := (Z3p BK150.out 1).trans rfl; have hcz68_2 : w66.cell? ⟨gb150, 2, none⟩ = some (.string (⟨#[]⟩ : ByteArray)) := (Z3p BK150.out 2).trans rfl; have hfz68_0 := blk_frozen BK150.out 0; have hfz68_1 := blk_frozen BK150.out 1; have hfz68_2 := blk_frozen BK150.out 2; have hcz69_0 : w66.cell? ⟨gb136, 0, none⟩ = some (.int .i64 x137000_2) := (Z3p BK136.out 0).trans rfl; have hcz69_1 : w66.cell? ⟨gb136, 1, none⟩ = some (.slice Ao64 x137001_2.length co64) := (Z3p BK136.out 1).trans rfl; have hfz69_0 := blk_frozen BK136.out 0; have hfz69_1 := blk_frozen BK136.out 1) | (go_at_call 15; (with_reducible refine (window_May.calls k3 x137000_2 _ _ x137001_2 true _ ?side1 ?side2 A52.out).mono ?_); (case side1 => refine (Kd.V_reads' (e := 42) (base := w.heap.size) (ok := fun k_ => (k_ ≠ gb136 ∧ k_ ≠ gb150)) (n := x137001_2.length) (c := co64) ?_).2.2; exact (by (with_reducible repeat (first | apply Z3o | apply Z3m | apply Z3n)); exact (Kd.V_mono (Kd.V_far (p := ⟨gb150, 2, none⟩) (Kd.V_far (p := ⟨gb150, 1, none⟩) (Kd.V_far (p := ⟨gb150, 0, none⟩) (Kd.V_mono HO_137001.out (fun k_ hk => (⟨hk, hk.2⟩ : _ ∧ k_ ≠ gb150))) (fun _ hk => hk.2) (.int .i64 t145)) (fun _ hk => hk.2) (.int .i64 t146)) (fun _ hk => hk.2) (.string t147)) (fun _ h_ => h_.1)))); (case side2 => exact (Kd.V_reads' HO_137001.out).2.1); rintro e w70 ⟨rfl, hb⟩; have n0_ := Aside0.mk (Kd.V_below (by (with_reducible repeat (first | apply Z3o | apply Z3m | apply Z3n)); exact (Kd.V_mono (Kd.V_far (p := ⟨gb150, 2, none⟩) (Kd.V_far (p := ⟨gb150, 1, none⟩) (Kd.V_far (p := ⟨gb150, 0, none⟩) (Kd.V_mono HO_137001.out (fun k_ hk => (⟨hk, hk.2⟩ : _ ∧ k_ ≠ gb150))) (fun _ hk => hk.2) (.int .i64 t145)) (fun _ hk => hk.2) (.int .i64 t146)) (fun _ hk => hk.2) (.string t147)) (fun _ h_ => h_.1))) hb); have n1_ := Aside0.mk (blk_below (g := gb136) (o := .cells #[.int .i64 x137000_2, .slice Ao64 x137001_2.length co64] 24 (0, 0)) (by (with_reducible repeat (first | refine Z3d ?_ _ | refine Z3e ?_ | refine Z3f ?_ _)); refine blk_far ?_ NB136_150.out _; (with_reducible repeat (first | refine Z3d ?_ _ | refine Z3e ?_ | refine Z3f ?_ _)); refine blk_far ?_ NB136_150.out _; (with_reducible repeat (first | refine Z3d ?_ _ | refine Z3e ?_ | refine Z3f ?_ _)); refine blk_far ?_ NB136_150.out _; (with_reducible repeat (first | refine Z3d ?_ _ | refine Z3e ?_ | refine Z3f ?_ _)); exact BK136.out) hb); have n2_ := Aside0.mk (blk_below (g := gb150) (o := .cells #[.int .i64 t145, .int .i64 t146, .string t147] 27 (0, 0)) (by (with_reducible repeat (first | refine Z3d ?_ _ | refine Z3e ?_ | refine Z3f ?_ _)); refine blk_put (cs := #[.int .i64 t145, .int .i64 t146, .string (⟨#[]⟩ : ByteArray)]) ?_ 2 _ rfl; (with_reducible repeat (first | refine Z3d ?_ _ | refine Z3e ?_ | refine Z3f ?_ _)); refine blk_put (cs := #[.int .i64 t145, .int .i64 0, .string (⟨#[]⟩ : ByteArray)]) ?_ 1 _ rfl; (with_reducible repeat (first | refine Z3d ?_ _ | refine Z3e ?_ | refine Z3f ?_ _)); refine blk_put (cs := #[.int .i64 0, .int .i64 0, .string (⟨#[]⟩ : ByteArray)]) ?_ 0 _ rfl; (with_reducible repeat (first | refine Z3d ?_ _ | refine Z3e ?_ | refine Z3f ?_ _)); exact BK150.out) hb); have n3_ := Aside0.mk (below_step (by repeat (first | (with_reducible first | exact HB.out | apply Z3k | apply Z3i | apply Z3j | refine Z3l ?_ GE136.out | refine Z3l ?_ GE150.out) | exact HB.out)) hb); clear HO_137001; clear BK136; clear BK150; clear HB; have HO_137001 := n0_; have BK136 := n1_; have BK150 := n2_; have HB := n3_; clear n0_ n1_ n2_ n3_; (try clear hb); (try clear hb2); (try clear hk); (try clear hi); have hcz71_0 : w70.cell? ⟨gb136, 0, none⟩ = some (.int .i64 x137000_2) := (Z3p BK136.out 0).trans rfl; have hcz71_1 : w70.cell? ⟨gb136, 1, none⟩ = some (.slice Ao64 x137001_2.length co64) := (Z3p BK136.out 1).trans rfl; have hfz71_0 := blk_frozen BK136.out 0; have hfz71_1 := blk_frozen BK136.out 1))
             go_ret
             exact ⟨by first | rfl | (simp [errW_none, errW_some] <;> rfl) | (simp [*, errW_none, errW_some] <;> rfl), by repeat (first | (with_reducible first | exact HB.out | apply Z3k | apply Z3i | apply Z3j | refine Z3l ?_ GE136.out | refine Z3l ?_ GE150.out) | exact HB.out)⟩
           ·
            replace c53 := Bool.eq_false_iff.mpr c53
            subst c53
            have H1 : (some false) = some r := by rw [if_neg (show ¬ (false = true) by decide)] at H; exact H
            clear H
            have H := H1
            clear H1
            obtain rfl := Option.some.inj H
            have hcz72_0 : wr.cell? ⟨gb136, 0, none⟩ = some (.int .i64 x137000_2) := (Z3p BK136.out 0).trans rfl
            have hcz72_1 : wr.cell? ⟨gb136, 1, none⟩ = some (u137001) := (Z3p BK136.out 1).trans rfl
            have hfz72_0 := blk_frozen BK136.out 0
            have hfz72_1 := blk_frozen BK136.out 1
            obtain ⟨Ao73, co73, eo73⟩ := Kd.V_slice HO_137001.out
            subst eo73
            go_wp2_with (first | ((with_reducible refine gate_callee (f := 10) rfl ?_); refine goesL_ (some 71) rfl rfl Try.func10 (by kernel_rfl) rfl #[.agg #[.int .i64 x137000_2, .slice Ao73 x137001_2.length co73], .int .i64 (wrap64 (x137000_2 + 1))] rfl (by (try simp only [List.map_toArray, List.map_cons, List.map_nil]); first | done | rfl | (simp only [List.length_drop, List.length_take]; rfl)) ?_; (with_reducible refine (window_Look.calls k3 x137000_2 _ _ x137001_2 (wrap64 (x137000_2 + 1)) t145 t146 t147 t148 t149 _ ?side1 ?side2 A50.out).mono ?_); (case side1 => repeat (first | exact (Kd.V_reads' HO_137001.out).2.2 | (with_reducible refine Kd.C_alloc ?_ _) | (with_reducible refine Kd.C_drewN ?_ _) | (with_reducible refine Kd.C_drew ?_))); (case side2 => exact (Kd.V_reads' HO_137001.out).2.1); rintro e w74 ⟨rfl, hb⟩; refine ⟨_, rfl, ?_⟩; have n0_ := Aside0.mk (Kd.V_below (by (with_reducible repeat (first | apply Z3o | apply Z3m | apply Z3n)); exact HO_137001.out) hb); have n1_ := Aside0.mk (blk_below (g := gb136) (o := .cells #[.int .i64 x137000_2, .slice Ao73 x137001_2.length co73] 24 (0, 0)) (by (with_reducible repeat (first | refine Z3d ?_ _ | refine Z3e ?_ | refine Z3f ?_ _)); exact BK136.out) hb); have n2_ := Aside0.mk (below_step (by repeat (first | (with_reducible first | exact HB.out | apply Z3k | apply Z3i | apply Z3j | refine Z3l ?_ GE136.out) | exact HB.out)) hb); clear HO_137001; clear BK136; clear HB; have HO_137001 := n0_; have BK136 := n1_; have HB := n2_; clear n0_ n1_ n2_; (try clear hb); (try clear hb2); (try clear hk); (try clear hi)) | ((with_reducible refine gate_dst (N := 10) rfl ?_); (try (refine gate_guard (by rfl) ?_; dsimp only)); refine box_event ?hg (N := 10) ?hd (cs := #[.int .i64 0, .int .i64 0, .string (⟨#[]⟩ : ByteArray)]) (t := 27) ?hr ?_; (case hd => rfl); (case hg => rfl); (case hr => first | (go_simp; done) | (go_simp; rfl)); intro gb150 hg w75 hbox hb; have n0_ := Aside0.mk (Kd.V_below (Kd.V_elderB (by (with_reducible repeat (first | apply Z3o | apply Z3m | apply Z3n)); exact HO_137001.out) gb150 (Nat.le_of_eq hg.symm)) hb); have n1_ := Aside0.mk (blk_below (g := gb136) (o := .cells #[.int .i64 x137000_2, .slice Ao73 x137001_2.length co73] 24 (0, 0)) (by (with_reducible repeat (first | refine Z3d ?_ _ | refine Z3e ?_ | refine Z3f ?_ _)); exact BK136.out) hb); have n2_ := Aside0.mk (below_step (by repeat (first | (with_reducible first | exact HB.out | apply Z3k | apply Z3i | apply Z3j | refine Z3l ?_ GE136.out) | exact HB.out)) hb); have n3_ := Aside0.mk (hbox); have n4_ := Aside0.mk ((by rw [hg]; exact (below_size (by repeat (first | (with_reducible first | exact HB.out | apply Z3k | apply Z3i | apply Z3j | refine Z3l ?_ GE136.out) | exact HB.out))) : w.heap.size ≤ gb150)); have n5_ := Aside0.mk ((by rw [hg]; exact (below_size (by repeat (first | (with_reducible first | exact HB.out | apply Z3k | apply Z3i | apply Z3j | refine Z3l ?_ GE136.out) | exact HB.out))) : w.heap.size ≤ gb150)); have n6_ := Aside0.mk ((by rw [hg]; exact Nat.ne_of_lt (blk_lt (g := gb136) (o := .cells #[.int .i64 x137000_2, .slice Ao73 x137001_2.length co73] 24 (0, 0)) (by (with_reducible repeat (first | refine Z3d ?_ _ | refine Z3e ?_ | refine Z3f ?_ _)); exact BK136.out)) : gb136 ≠ gb150)); have n7_ := Aside0.mk ((by rw [hg]; exact Nat.ne_of_gt (blk_lt (g := gb136) (o := .cells #[.int .i64 x137000_2, .slice Ao73 x137001_2.length co73] 24 (0, 0)) (by (with_reducible repeat (first | refine Z3d ?_ _ | refine Z3e ?_ | refine Z3f ?_ _)); exact BK136.out)) : gb150 ≠ gb136)); clear HO_137001; clear BK136; clear HB; have HO_137001 := n0_; have BK136 := n1_; have HB := n2_; have BK150 := n3_; have GW150 := n4_; have GE150 := n5_; have NB136_150 := n6_; have NB150_136 := n7_; clear n0_ n1_ n2_ n3_ n4_ n5_ n6_ n7_; clear hb hbox hg; have hnb76 := NB150_136.out; have hnc76 := NB136_150.out; have hcz77_0 : w75.cell? ⟨gb150, 0, none⟩ = some (.int .i64 0) := (Z3p BK150.out 0).trans rfl; have hcz77_1 : w75.cell? ⟨gb150, 1, none⟩ = some (.int .i64 0) := (Z3p BK150.out 1).trans rfl; have hcz77_2 : w75.cell? ⟨gb150, 2, none⟩ = some (.string (⟨#[]⟩ : ByteArray)) := (Z3p BK150.out 2).trans rfl; have hfz77_0 := blk_frozen BK150.out 0; have hfz77_1 := blk_frozen BK150.out 1; have hfz77_2 := blk_frozen BK150.out 2; have hcz78_0 : w75.cell? ⟨gb136, 0, none⟩ = some (.int .i64 x137000_2) := (Z3p BK136.out 0).trans rfl; have hcz78_1 : w75.cell? ⟨gb136, 1, none⟩ = some (.slice Ao73 x137001_2.length co73) := (Z3p BK136.out 1).trans rfl; have hfz78_0 := blk_frozen BK136.out 0; have hfz78_1 := blk_frozen BK136.out 1) | (go_at_call 15; (with_reducible refine (window_May.calls k3 x137000_2 _ _ x137001_2 false _ ?side1 ?side2 A52.out).mono ?_); (case side1 => refine (Kd.V_reads' (e := 42) (base := w.heap.size) (ok := fun k_ => (k_ ≠ gb136 ∧ k_ ≠ gb150)) (n := x137001_2.length) (c := co73) ?_).2.2; exact (by (with_reducible repeat (first | apply Z3o | apply Z3m | apply Z3n)); exact (Kd.V_mono (Kd.V_far (p := ⟨gb150, 2, none⟩) (Kd.V_far (p := ⟨gb150, 1, none⟩) (Kd.V_far (p := ⟨gb150, 0, none⟩) (Kd.V_mono HO_137001.out (fun k_ hk => (⟨hk, hk.2⟩ : _ ∧ k_ ≠ gb150))) (fun _ hk => hk.2) (.int .i64 t145)) (fun _ hk => hk.2) (.int .i64 t146)) (fun _ hk => hk.2) (.string t147)) (fun _ h_ => h_.1)))); (case side2 => exact (Kd.V_reads' HO_137001.out).2.1); rintro e w79 ⟨rfl, hb⟩; have n0_ := Aside0.mk (Kd.V_below (by (with_reducible repeat (first | apply Z3o | apply Z3m | apply Z3n)); exact (Kd.V_mono (Kd.V_far (p := ⟨gb150, 2, none⟩) (Kd.V_far (p := ⟨gb150, 1, none⟩) (Kd.V_far (p := ⟨gb150, 0, none⟩) (Kd.V_mono HO_137001.out (fun k_ hk => (⟨hk, hk.2⟩ : _ ∧ k_ ≠ gb150))) (fun _ hk => hk.2) (.int .i64 t145)) (fun _ hk => hk.2) (.int .i64 t146)) (fun _ hk => hk.2) (.string t147)) (fun _ h_ => h_.1))) hb); have n1_ := Aside0.mk (blk_below (g := gb136) (o := .cells #[.int .i64 x137000_2, .slice Ao73 x137001_2.length co73] 24 (0, 0)) (by (with_reducible repeat (first | refine Z3d ?_ _ | refine Z3e ?_ | refine Z3f ?_ _)); refine blk_far ?_ NB136_150.out _; (with_reducible repeat (first | refine Z3d ?_ _ | refine Z3e ?_ | refine Z3f ?_ _)); refine blk_far ?_ NB136_150.out _; (with_reducible repeat (first | refine Z3d ?_ _ | refine Z3e ?_ | refine Z3f ?_ _)); refine blk_far ?_ NB136_150.out _; (with_reducible repeat (first | refine Z3d ?_ _ | refine Z3e ?_ | refine Z3f ?_ _)); exact BK136.out) hb); have n2_ := Aside0.mk (blk_below (g := gb150) (o := .cells #[.int .i64 t145, .int .i64 t146, .string t147] 27 (0, 0)) (by (with_reducible repeat (first | refine Z3d ?_ _ | refine Z3e ?_ | refine Z3f ?_ _)); refine blk_put (cs := #[.int .i64 t145, .int .i64 t146, .string (⟨#[]⟩ : ByteArray)]) ?_ 2 _ rfl; (with_reducible repeat (first | refine Z3d ?_ _ | refine Z3e ?_ | refine Z3f ?_ _)); refine blk_put (cs := #[.int .i64 t145, .int .i64 0, .string (⟨#[]⟩ : ByteArray)]) ?_ 1 _ rfl; (with_reducible repeat (first | refine Z3d ?_ _ | refine Z3e ?_ | refine Z3f ?_ _)); refine blk_put (cs := #[.int .i64 0, .int .i64 0, .string (⟨#[]⟩ : ByteArray)]) ?_ 0 _ rfl; (with_reducible repeat (first | refine Z3d ?_ _ | refine Z3e ?_ | refine Z3f ?_ _)); exact BK150.out) hb); have n3_ := Aside0.mk (below_step (by repeat (first | (with_reducible first | exact HB.out | apply Z3k | apply Z3i | apply Z3j | refine Z3l ?_ GE136.out | refine Z3l ?_ GE150.out) | exact HB.out)) hb); clear HO_137001; clear BK136; clear BK150; clear HB; have HO_137001 := n0_; have BK136 := n1_; have BK150 := n2_; have HB := n3_; clear n0_ n1_ n2_ n3_; (try clear hb); (try clear hb2); (try clear hk); (try clear hi)))
            go_ret
            exact ⟨by first | rfl | (simp [errW_none, errW_some] <;> rfl) | (simp [*, errW_none, errW_some] <;> rfl), by repeat (first | (with_reducible first | exact HB.out | apply Z3k | apply Z3i | apply Z3j | refine Z3l ?_ GE136.out | refine Z3l ?_ GE150.out) | exact HB.out)⟩
          ·
           replace c51 := Bool.eq_false_iff.mpr c51
           subst c51
           have H1 : (some false) = some r := by rw [if_neg (show ¬ (false = true) by decide)] at H; exact H
           clear H
           have H := H1
           clear H1
           obtain rfl := Option.some.inj H
           have hcz80_0 : wr.cell? ⟨gb136, 0, none⟩ = some (.int .i64 x137000_2) := (Z3p BK136.out 0).trans rfl
           have hcz80_1 : wr.cell? ⟨gb136, 1, none⟩ = some (u137001) := (Z3p BK136.out 1).trans rfl
           have hfz80_0 := blk_frozen BK136.out 0
           have hfz80_1 := blk_frozen BK136.out 1
           obtain ⟨Ao81, co81, eo81⟩ := Kd.V_slice HO_137001.out
           subst eo81
           go_wp2_with (first | ((with_reducible refine gate_callee (f := 10) rfl ?_); refine goesL_ (some 71) rfl rfl Try.func10 (by kernel_rfl) rfl #[.agg #[.int .i64 x137000_2, .slice Ao81 x137001_2.length co81], .int .i64 (wrap64 (x137000_2 + 1))] rfl (by (try simp only [List.map_toArray, List.map_cons, List.map_nil]); first | done | rfl | (simp only [List.length_drop, List.length_take]; rfl)) ?_; (with_reducible refine (window_Look.calls k3 x137000_2 _ _ x137001_2 (wrap64 (x137000_2 + 1)) t145 t146 t147 t148 t149 _ ?side1 ?side2 A50.out).mono ?_); (case side1 => repeat (first | exact (Kd.V_reads' HO_137001.out).2.2 | (with_reducible refine Kd.C_alloc ?_ _) | (with_reducible refine Kd.C_drewN ?_ _) | (with_reducible refine Kd.C_drew ?_))); (case side2 => exact (Kd.V_reads' HO_137001.out).2.1); rintro e w82 ⟨rfl, hb⟩; refine ⟨_, rfl, ?_⟩; have n0_ := Aside0.mk (Kd.V_below (by (with_reducible repeat (first | apply Z3o | apply Z3m | apply Z3n)); exact HO_137001.out) hb); have n1_ := Aside0.mk (blk_below (g := gb136) (o := .cells #[.int .i64 x137000_2, .slice Ao81 x137001_2.length co81] 24 (0, 0)) (by (with_reducible repeat (first | refine Z3d ?_ _ | refine Z3e ?_ | refine Z3f ?_ _)); exact BK136.out) hb); have n2_ := Aside0.mk (below_step (by repeat (first | (with_reducible first | exact HB.out | apply Z3k | apply Z3i | apply Z3j | refine Z3l ?_ GE136.out) | exact HB.out)) hb); clear HO_137001; clear BK136; clear HB; have HO_137001 := n0_; have BK136 := n1_; have HB := n2_; clear n0_ n1_ n2_; (try clear hb); (try clear hb2); (try clear hk); (try clear hi)) | ((with_reducible refine gate_dst (N := 10) rfl ?_); (try (refine gate_guard (by rfl) ?_; dsimp only)); refine box_event ?hg (N := 10) ?hd (cs := #[.int .i64 0, .int .i64 0, .string (⟨#[]⟩ : ByteArray)]) (t := 27) ?hr ?_; (case hd => rfl); (case hg => rfl); (case hr => first | (go_simp; done) | (go_simp; rfl)); intro gb150 hg w83 hbox hb; have n0_ := Aside0.mk (Kd.V_below (Kd.V_elderB (by (with_reducible repeat (first | apply Z3o | apply Z3m | apply Z3n)); exact HO_137001.out) gb150 (Nat.le_of_eq hg.symm)) hb); have n1_ := Aside0.mk (blk_below (g := gb136) (o := .cells #[.int .i64 x137000_2, .slice Ao81 x137001_2.length co81] 24 (0, 0)) (by (with_reducible repeat (first | refine Z3d ?_ _ | refine Z3e ?_ | refine Z3f ?_ _)); exact BK136.out) hb); have n2_ := Aside0.mk (below_step (by repeat (first | (with_reducible first | exact HB.out | apply Z3k | apply Z3i | apply Z3j | refine Z3l ?_ GE136.out) | exact HB.out)) hb); have n3_ := Aside0.mk (hbox); have n4_ := Aside0.mk ((by rw [hg]; exact (below_size (by repeat (first | (with_reducible first | exact HB.out | apply Z3k | apply Z3i | apply Z3j | refine Z3l ?_ GE136.out) | exact HB.out))) : w.heap.size ≤ gb150)); have n5_ := Aside0.mk ((by rw [hg]; exact (below_size (by repeat (first | (with_reducible first | exact HB.out | apply Z3k | apply Z3i | apply Z3j | refine Z3l ?_ GE136.out) | exact HB.out))) : w.heap.size ≤ gb150)); have n6_ := Aside0.mk ((by rw [hg]; exact Nat.ne_of_lt (blk_lt (g := gb136) (o := .cells #[.int .i64 x137000_2, .slice Ao81 x137001_2.length co81] 24 (0, 0)) (by (with_reducible repeat (first | refine Z3d ?_ _ | refine Z3e ?_ | refine Z3f ?_ _)); exact BK136.out)) : gb136 ≠ gb150)); have n7_ := Aside0.mk ((by rw [hg]; exact Nat.ne_of_gt (blk_lt (g := gb136) (o := .cells #[.int .i64 x137000_2, .slice Ao81 x137001_2.length co81] 24 (0, 0)) (by (with_reducible repeat (first | refine Z3d ?_ _ | refine Z3e ?_ | refine Z3f ?_ _)); exact BK136.out)) : gb150 ≠ gb136)); clear HO_137001; clear BK136; clear HB; have HO_137001 := n0_; have BK136 := n1_; have HB := n2_; have BK150 := n3_; have GW150 := n4_; have GE150 := n5_; have NB136_150 := n6_; have NB150_136 := n7_; clear n0_ n1_ n2_ n3_ n4_ n5_ n6_ n7_; clear hb hbox hg; have hnb84 := NB150_136.out; have hnc84 := NB136_150.out; have hcz85_0 : w83.cell? ⟨gb150, 0, none⟩ = some (.int .i64 0) := (Z3p BK150.out 0).trans rfl; have hcz85_1 : w83.cell? ⟨gb150, 1, none⟩ = some (.int .i64 0) := (Z3p BK150.out 1).trans rfl; have hcz85_2 : w83.cell? ⟨gb150, 2, none⟩ = some (.string (⟨#[]⟩ : ByteArray)) := (Z3p BK150.out 2).trans rfl; have hfz85_0 := blk_frozen BK150.out 0; have hfz85_1 := blk_frozen BK150.out 1; have hfz85_2 := blk_frozen BK150.out 2))
           go_ret
           exact ⟨by first | rfl | (simp [errW_none, errW_some] <;> rfl) | (simp [*, errW_none, errW_some] <;> rfl), by repeat (first | (with_reducible first | exact HB.out | apply Z3k | apply Z3i | apply Z3j | refine Z3l ?_ GE136.out | refine Z3l ?_ GE150.out) | exact HB.out)⟩

/-- THE ONE PURE STATEMENT of colloquylaw17_WindowLow: yours. -/
def colloquylaw17_WindowLow.Pure : Prop := ∀ (l0 : List Int), l0.length ≤ maxLen → l0.length * 8 ≤ 140737488351232 → (∀ x ∈ l0, (Lit.int .i64 x).wf = true) → ∃ k, colloquylaw17_WindowLow.f k l0 = some true
theorem colloquylaw17_WindowLow.walk (P : colloquylaw17_WindowLow.Pure) (a0 : Option Addr) (len0 cap0 : Nat) (z0 : List Int) (w : World) (w0 : (a0 = none ∧ len0 = 0 ∧ cap0 = 0 ∧ z0 = []) ∨ ∃ x, a0 = some x ∧ len0 ≤ cap0 ∧ cap0 ≤ maxLen ∧ z0.length = cap0 ∧ (∀ i, i < z0.length → w.cell? (x.add i) = some (.int .i64 (z0.getD i 0))) ∧ ∀ n ∈ z0, (Lit.int .i64 n).wf = true) (y0 : len0 * 8 ≤ 140737488351232) :
 Calls Try.prog 6 #[.slice a0 len0 cap0] w fun e w' => e = .returned (.bool true) ∧ Below w.heap.size w w' := by
 obtain ⟨l0, rfl, hr0, hm0, hw0, hc0⟩ := ReadsInt.ofRowC w0
 obtain ⟨k, h⟩ := P l0 hm0 y0 hw0
 refine (colloquylaw17_WindowLow.calls k _ _ l0 true w (Kd.C_of_reads (d := (0 : Int)) (h1 := fun _ => rfl) hr0) hc0 h).mono ?_
 rintro e w' ⟨rfl, hd⟩
 exact ⟨rfl, hd⟩

end Go.Proofs.Ytipmodlmmadfbaa.PWindowLow
