-- Printed by a program of this session (xprint.py), which runs the kit's print and takes some contracts from texts of this session.
import Derived.Test.YtipmodlmmadfbaaPWindowRunsx0
import Derived.Test.YtipmodlmmadfbaaPWindowRunsx1
import Derived.Test.YtipmodlmmadfbaaPWindowRunsx2
namespace Go.Proofs.Ytipmodlmmadfbaa.PWindowRuns
open Go.RowKit Go.Proofs.YtipmodlmmadfbaaW.PrintWords Go.Proofs.YtipmodlmmadfbaaW.PrintLast Go.Proofs.YtipmodlmmadfbaaW.PrintMore
theorem B1 {w : World} {g : Nat} {o : Obj} (h : w.heap[g]? = some o) (n : Nat) : (w.drewN n).heap[g]? = some o := blk_drewN h n
theorem B2 {w : World} {g : Nat} {o : Obj} (h : w.heap[g]? = some o) : w.drew.heap[g]? = some o := h
theorem B3 {w : World} {g : Nat} {o : Obj} (h : w.heap[g]? = some o) (o' : Obj) : (w.alloc o').heap[g]? = some o := blk_alloc h o'
theorem B4 {α : Type} (l : List α) (i : Nat) (a : α) : l.toArray.setIfInBounds i a = (l.set i a).toArray := List.setIfInBounds_toArray ..
theorem B5 {α : Type} {x : α} {xs : List α} {a : α} : (x :: xs).set 0 a = a :: xs := rfl
theorem B6 {α : Type} {x : α} {xs : List α} {n : Nat} {a : α} : (x :: xs).set (n + 1) a = x :: xs.set n a := rfl
attribute [local go_sem] max2_int min2_int max_two min_two max_three min_three max_four min_four   -- for this text's walks alone
set_option linter.unusedVariables false
set_option linter.unusedSimpArgs false

/-! ### colloquylaw17_WindowRuns: function 5 -/
mutual
def colloquylaw17_WindowRuns.j0 : Nat → List Int → Bool → Bool → Option (Bool)
 | 0, _, _, _ => none
 | k + 1, x0, x3, x23 => if x23 = true then (some x3) else (colloquylaw17_WindowRuns.l0 k x0 ([] : List Int) 0 0 ([] : List (S42)))
def colloquylaw17_WindowRuns.l0 : Nat → List Int → List Int → Int → Int → List (S42) → Option (Bool)
 | 0, _, _, _, _, _ => none
 | k + 1, x0, x5, x6, x137000, x137001 => if x6 < (x0.length : Int) then (if 0 ≤ x6 then ((window_Put.f k x137000 x137001 (rd x0 x6) 0 x6 (⟨#[]⟩ : ByteArray)).bind fun bt138 => (if bt138.2.2 = 0 then (colloquylaw17_WindowRuns.l1 k x0 x5 x6 0 bt138.1 bt138.2.1) else (colloquylaw17_WindowRuns.l0 k x0 x5 (wrap64 (x6 + 1)) x137000 x137001))) else (none)) else (colloquylaw17_WindowRuns.l2 k x5 0 x137000 x137001)
def colloquylaw17_WindowRuns.l1 : Nat → List Int → List Int → Int → Int → Int → List (S42) → Option (Bool)
 | 0, _, _, _, _, _, _ => none
 | k + 1, x0, x5, x6, x9, x144000, x144001 => if x9 < (x5.length : Int) then (if 0 ≤ x9 then (if 0 ≤ x6 then (if x6 < (x0.length : Int) then (if (rd x5 x9) = (rd x0 x6) then (some false) else (colloquylaw17_WindowRuns.l1 k x0 x5 x6 (wrap64 (x9 + 1)) x144000 x144001)) else (none)) else (none)) else (none)) else (if 0 ≤ x6 then (if x6 < (x0.length : Int) then (if x5.length < 17592186044416 then (colloquylaw17_WindowRuns.l0 k x0 (x5 ++ [rd x0 x6]) (wrap64 (x6 + 1)) x144000 x144001) else (none)) else (none)) else (none))
def colloquylaw17_WindowRuns.l2 : Nat → List Int → Int → Int → List (S42) → Option (Bool)
 | 0, _, _, _, _ => none
 | k + 1, x5, x10, x137000, x137001 => if x10 < (x5.length : Int) then (colloquylaw17_WindowRuns.l3 k x5 x10 0 0 x137000 x137001) else (some (decide ((x137001.length : Int) ≤ 8)))
def colloquylaw17_WindowRuns.l3 : Nat → List Int → Int → Int → Int → Int → List (S42) → Option (Bool)
 | 0, _, _, _, _, _, _ => none
 | k + 1, x5, x10, x11, x12, x137000, x137001 => if x12 < (x5.length : Int) then (if 0 ≤ x12 then (if 0 ≤ x10 then (if x10 < (x5.length : Int) then (if (rd x5 x12) > (rd x5 x10) then (colloquylaw17_WindowRuns.l3 k x5 x10 (wrap64 (x11 + 1)) (wrap64 (x12 + 1)) x137000 x137001) else (colloquylaw17_WindowRuns.l3 k x5 x10 x11 (wrap64 (x12 + 1)) x137000 x137001)) else (none)) else (none)) else (none)) else (if 0 ≤ x10 then (if x10 < (x5.length : Int) then ((window_Look.f k x137000 x137001 (rd x5 x10)).bind fun bt153 => (if x11 < 8 then (if bt153.2.2.2.1 = true then (if bt153.2.2.2.2 = 0 then (colloquylaw17_WindowRuns.l2 k x5 (wrap64 (x10 + 1)) x137000 x137001) else (some false)) else (some false)) else (colloquylaw17_WindowRuns.l2 k x5 (wrap64 (x10 + 1)) x137000 x137001))) else (none)) else (none))
end
def colloquylaw17_WindowRuns.f (k : Nat) (l0 : List Int) : Option (Bool) := (colloquylaw17_awake.f k).bind fun t135 => (if t135 = true then (colloquylaw17_WindowRuns.j0 k l0 t135 (decide ((l0.length : Int) > 100))) else (colloquylaw17_WindowRuns.j0 k l0 t135 true))
theorem colloquylaw17_WindowRuns.mono_l : ∀ k, (∀ y0 y1 y2, LeO (colloquylaw17_WindowRuns.j0 k y0 y1 y2) (colloquylaw17_WindowRuns.j0 (k + 1) y0 y1 y2)) ∧ (∀ y0 y1 y2 y3 y4, LeO (colloquylaw17_WindowRuns.l0 k y0 y1 y2 y3 y4) (colloquylaw17_WindowRuns.l0 (k + 1) y0 y1 y2 y3 y4)) ∧ (∀ y0 y1 y2 y3 y4 y5, LeO (colloquylaw17_WindowRuns.l1 k y0 y1 y2 y3 y4 y5) (colloquylaw17_WindowRuns.l1 (k + 1) y0 y1 y2 y3 y4 y5)) ∧ (∀ y0 y1 y2 y3, LeO (colloquylaw17_WindowRuns.l2 k y0 y1 y2 y3) (colloquylaw17_WindowRuns.l2 (k + 1) y0 y1 y2 y3)) ∧ (∀ y0 y1 y2 y3 y4 y5, LeO (colloquylaw17_WindowRuns.l3 k y0 y1 y2 y3 y4 y5) (colloquylaw17_WindowRuns.l3 (k + 1) y0 y1 y2 y3 y4 y5))
 | 0 => ⟨fun _ _ _ r h => by simp [colloquylaw17_WindowRuns.j0] at h, fun _ _ _ _ _ r h => by simp [colloquylaw17_WindowRuns.l0] at h, fun _ _ _ _ _ _ r h => by simp [colloquylaw17_WindowRuns.l1] at h, fun _ _ _ _ r h => by simp [colloquylaw17_WindowRuns.l2] at h, fun _ _ _ _ _ _ r h => by simp [colloquylaw17_WindowRuns.l3] at h⟩
 | k + 1 => by
  obtain ⟨ih0, ih1, ih2, ih3, ih4⟩ := colloquylaw17_WindowRuns.mono_l k
  refine ⟨?_, ?_, ?_, ?_, ?_⟩
  ·
   intro y0 y1 y2
   unfold colloquylaw17_WindowRuns.j0
   repeat' first
   | (with_reducible exact ih0 _ _ _)
   | (with_reducible exact ih1 _ _ _ _ _)
   | (with_reducible exact ih2 _ _ _ _ _ _)
   | (with_reducible exact ih3 _ _ _ _)
   | (with_reducible exact ih4 _ _ _ _ _ _)
   | (with_reducible exact colloquylaw17_awake.mono _)
   | (with_reducible exact window_Look.mono _ _ _ _)
   | (with_reducible exact window_Put.mono _ _ _ _ _ _ _)
   | (with_reducible exact LeO.refl _)
   | (with_reducible exact LeO.none _)
   | (with_reducible refine LeO.ite ?_ ?_)
   | (with_reducible refine LeO.bind ?_ (fun _ => ?_))
   | exact ih0 _ _ _
   | exact ih1 _ _ _ _ _
   | exact ih2 _ _ _ _ _ _
   | exact ih3 _ _ _ _
   | exact ih4 _ _ _ _ _ _
   | exact colloquylaw17_awake.mono _
   | exact window_Look.mono _ _ _ _
   | exact window_Put.mono _ _ _ _ _ _ _
   | exact LeO.none _
   | refine LeO.ite ?_ ?_
   | refine LeO.bind ?_ (fun _ => ?_)
  ·
   intro y0 y1 y2 y3 y4
   unfold colloquylaw17_WindowRuns.l0
   repeat' first
   | (with_reducible exact ih0 _ _ _)
   | (with_reducible exact ih1 _ _ _ _ _)
   | (with_reducible exact ih2 _ _ _ _ _ _)
   | (with_reducible exact ih3 _ _ _ _)
   | (with_reducible exact ih4 _ _ _ _ _ _)
   | (with_reducible exact colloquylaw17_awake.mono _)
   | (with_reducible exact window_Look.mono _ _ _ _)
   | (with_reducible exact window_Put.mono _ _ _ _ _ _ _)
   | (with_reducible exact LeO.refl _)
   | (with_reducible exact LeO.none _)
   | (with_reducible refine LeO.ite ?_ ?_)
   | (with_reducible refine LeO.bind ?_ (fun _ => ?_))
   | exact ih0 _ _ _
   | exact ih1 _ _ _ _ _
   | exact ih2 _ _ _ _ _ _
   | exact ih3 _ _ _ _
   | exact ih4 _ _ _ _ _ _
   | exact colloquylaw17_awake.mono _
   | exact window_Look.mono _ _ _ _
   | exact window_Put.mono _ _ _ _ _ _ _
   | exact LeO.none _
   | refine LeO.ite ?_ ?_
   | refine LeO.bind ?_ (fun _ => ?_)
  ·
   intro y0 y1 y2 y3 y4 y5
   unfold colloquylaw17_WindowRuns.l1
   repeat' first
   | (with_reducible exact ih0 _ _ _)
   | (with_reducible exact ih1 _ _ _ _ _)
   | (with_reducible exact ih2 _ _ _ _ _ _)
   | (with_reducible exact ih3 _ _ _ _)
   | (with_reducible exact ih4 _ _ _ _ _ _)
   | (with_reducible exact colloquylaw17_awake.mono _)
   | (with_reducible exact window_Look.mono _ _ _ _)
   | (with_reducible exact window_Put.mono _ _ _ _ _ _ _)
   | (with_reducible exact LeO.refl _)
   | (with_reducible exact LeO.none _)
   | (with_reducible refine LeO.ite ?_ ?_)
   | (with_reducible refine LeO.bind ?_ (fun _ => ?_))
   | exact ih0 _ _ _
   | exact ih1 _ _ _ _ _
   | exact ih2 _ _ _ _ _ _
   | exact ih3 _ _ _ _
   | exact ih4 _ _ _ _ _ _
   | exact colloquylaw17_awake.mono _
   | exact window_Look.mono _ _ _ _
   | exact window_Put.mono _ _ _ _ _ _ _
   | exact LeO.none _
   | refine LeO.ite ?_ ?_
   | refine LeO.bind ?_ (fun _ => ?_)
  ·
   intro y0 y1 y2 y3
   unfold colloquylaw17_WindowRuns.l2
   repeat' first
   | (with_reducible exact ih0 _ _ _)
   | (with_reducible exact ih1 _ _ _ _ _)
   | (with_reducible exact ih2 _ _ _ _ _ _)
   | (with_reducible exact ih3 _ _ _ _)
   | (with_reducible exact ih4 _ _ _ _ _ _)
   | (with_reducible exact colloquylaw17_awake.mono _)
   | (with_reducible exact window_Look.mono _ _ _ _)
   | (with_reducible exact window_Put.mono _ _ _ _ _ _ _)
   | (with_reducible exact LeO.refl _)
   | (with_reducible exact LeO.none _)
   | (with_reducible refine LeO.ite ?_ ?_)
   | (with_reducible refine LeO.bind ?_ (fun _ => ?_))
   | exact ih0 _ _ _
   | exact ih1 _ _ _ _ _
   | exact ih2 _ _ _ _ _ _
   | exact ih3 _ _ _ _
   | exact ih4 _ _ _ _ _ _
   | exact colloquylaw17_awake.mono _
   | exact window_Look.mono _ _ _ _
   | exact window_Put.mono _ _ _ _ _ _ _
   | exact LeO.none _
   | refine LeO.ite ?_ ?_
   | refine LeO.bind ?_ (fun _ => ?_)
  ·
   intro y0 y1 y2 y3 y4 y5
   unfold colloquylaw17_WindowRuns.l3
   repeat' first
   | (with_reducible exact ih0 _ _ _)
   | (with_reducible exact ih1 _ _ _ _ _)
   | (with_reducible exact ih2 _ _ _ _ _ _)
   | (with_reducible exact ih3 _ _ _ _)
   | (with_reducible exact ih4 _ _ _ _ _ _)
   | (with_reducible exact colloquylaw17_awake.mono _)
   | (with_reducible exact window_Look.mono _ _ _ _)
   | (with_reducible exact window_Put.mono _ _ _ _ _ _ _)
   | (with_reducible exact LeO.refl _)
   | (with_reducible exact LeO.none _)
   | (with_reducible refine LeO.ite ?_ ?_)
   | (with_reducible refine LeO.bind ?_ (fun _ => ?_))
   | exact ih0 _ _ _
   | exact ih1 _ _ _ _ _
   | exact ih2 _ _ _ _ _ _
   | exact ih3 _ _ _ _
   | exact ih4 _ _ _ _ _ _
   | exact colloquylaw17_awake.mono _
   | exact window_Look.mono _ _ _ _
   | exact window_Put.mono _ _ _ _ _ _ _
   | exact LeO.none _
   | refine LeO.ite ?_ ?_
   | refine LeO.bind ?_ (fun _ => ?_)
theorem colloquylaw17_WindowRuns.mono : ∀ a0 k, LeO (colloquylaw17_WindowRuns.f k a0) (colloquylaw17_WindowRuns.f (k + 1) a0) := by
 intro a0 k
 obtain ⟨ih0, ih1, ih2, ih3, ih4⟩ := colloquylaw17_WindowRuns.mono_l k
 unfold colloquylaw17_WindowRuns.f
 repeat' first
  | (with_reducible exact ih0 _ _ _)
  | (with_reducible exact ih1 _ _ _ _ _)
  | (with_reducible exact ih2 _ _ _ _ _ _)
  | (with_reducible exact ih3 _ _ _ _)
  | (with_reducible exact ih4 _ _ _ _ _ _)
  | (with_reducible exact colloquylaw17_awake.mono _)
  | (with_reducible exact window_Look.mono _ _ _ _)
  | (with_reducible exact window_Put.mono _ _ _ _ _ _ _)
  | (with_reducible exact LeO.refl _)
  | (with_reducible exact LeO.none _)
  | (with_reducible refine LeO.ite ?_ ?_)
  | (with_reducible refine LeO.bind ?_ (fun _ => ?_))
  | exact ih0 _ _ _
  | exact ih1 _ _ _ _ _
  | exact ih2 _ _ _ _ _ _
  | exact ih3 _ _ _ _
  | exact ih4 _ _ _ _ _ _
  | exact colloquylaw17_awake.mono _
  | exact window_Look.mono _ _ _ _
  | exact window_Put.mono _ _ _ _ _ _ _
  | exact LeO.none _
  | refine LeO.ite ?_ ?_
  | refine LeO.bind ?_ (fun _ => ?_)
def colloquylaw17_WindowRuns.T9 : Bool × List (List Nat × List Nat) := (true, [([], []), ([], []), ([], []), ([1, 2], [1, 2]), ([3], [3]), ([], []), ([5], [5]), ([0, 4, 6], [0, 4, 6]), ([7], [7]), ([8], [8]), ([8], [8]), ([], []), ([11, 9, 7, 0, 1, 2, 3, 4, 5, 6, 7, 8, 9, 11], [9, 11]), ([10, 12, 0, 1, 2, 3, 4, 5, 6, 7, 8, 9, 10, 11, 12], [10])])
def colloquylaw17_WindowRuns.B9 : List Nat := [0, 0, 0, 6, 14, 0, 32, 127, 255, 511, 511, 0, 3071, 8191]
theorem colloquylaw17_WindowRuns.tab9 : rtab .any (opsOf Try.f5 9) = colloquylaw17_WindowRuns.T9 := by kernel_rfl
theorem colloquylaw17_WindowRuns.bits9 : waitsOk colloquylaw17_WindowRuns.T9.2 colloquylaw17_WindowRuns.B9 = true := by kernel_rfl
def colloquylaw17_WindowRuns.T14 : Bool × List (List Nat × List Nat) := (true, [([], []), ([], []), ([0, 1], [0, 1]), ([2], [2]), ([], []), ([], []), ([4, 5], [4, 5]), ([6], [6]), ([3, 7], [3, 7])])
def colloquylaw17_WindowRuns.B14 : List Nat := [0, 0, 3, 7, 0, 0, 48, 112, 255]
theorem colloquylaw17_WindowRuns.tab14 : rtab .any (opsOf Try.f5 14) = colloquylaw17_WindowRuns.T14 := by kernel_rfl
theorem colloquylaw17_WindowRuns.bits14 : waitsOk colloquylaw17_WindowRuns.T14.2 colloquylaw17_WindowRuns.B14 = true := by kernel_rfl
def colloquylaw17_WindowRuns.T25 : Bool × List (List Nat × List Nat) := (true, [([], []), ([], []), ([0, 1], [0, 1]), ([2], [2]), ([], []), ([], []), ([4, 5], [4, 5]), ([6], [6]), ([3, 7], [3, 7])])
def colloquylaw17_WindowRuns.B25 : List Nat := [0, 0, 3, 7, 0, 0, 48, 112, 255]
theorem colloquylaw17_WindowRuns.tab25 : rtab .any (opsOf Try.f5 25) = colloquylaw17_WindowRuns.T25 := by kernel_rfl
theorem colloquylaw17_WindowRuns.bits25 : waitsOk colloquylaw17_WindowRuns.T25.2 colloquylaw17_WindowRuns.B25 = true := by kernel_rfl
def colloquylaw17_WindowRuns.T27 : Bool × List (List Nat × List Nat) := (true, [([], []), ([], []), ([], []), ([1, 2], [1, 2]), ([3], [3]), ([0, 4], [0, 4]), ([5], [5]), ([6], [6]), ([6], [6]), ([6], [6]), ([], []), ([10, 7, 5, 0, 1, 2, 3, 4, 5, 6, 7, 10], [7, 10]), ([8, 11, 0, 1, 2, 3, 4, 5, 6, 7, 8, 10, 11], [8]), ([9, 12, 0, 1, 2, 3, 4, 5, 6, 7, 8, 9, 10, 11, 12], [9])])
def colloquylaw17_WindowRuns.B27 : List Nat := [0, 0, 0, 6, 14, 31, 63, 127, 127, 127, 0, 1279, 3583, 8191]
theorem colloquylaw17_WindowRuns.tab27 : rtab .any (opsOf Try.f5 27) = colloquylaw17_WindowRuns.T27 := by kernel_rfl
theorem colloquylaw17_WindowRuns.bits27 : waitsOk colloquylaw17_WindowRuns.T27.2 colloquylaw17_WindowRuns.B27 = true := by kernel_rfl
set_option maxHeartbeats 8000000 in
set_option maxRecDepth 100000 in
theorem colloquylaw17_WindowRuns.calls (k : Nat) (A0 : Option Addr) (c0 : Nat) (l0 : List Int) (r : Bool) (w : World) (hr0 : Kd.C (Kd.int .i64) w A0 l0.length l0) (hc0 : l0.length ≤ c0) (h : colloquylaw17_WindowRuns.f k l0 = some r) :
 Calls Try.prog 5 #[.slice A0 l0.length c0] w fun e w' => e = .returned (.bool r) ∧ Below w.heap.size w w' := by
 have hu24 := Try.underlying24
 have hu27 := Try.underlying27
 have HR0 := Aside0.mk hr0
 have HC0 := Aside0.mk hc0
 clear hr0 hc0
 have HB := Aside0.mk (Below.refl w.heap.size w)
 have H : ((colloquylaw17_awake.f k).bind fun t135 => (if t135 = true then (colloquylaw17_WindowRuns.j0 k l0 t135 (decide ((l0.length : Int) > 100))) else (colloquylaw17_WindowRuns.j0 k l0 t135 true))) = some r := h
 clear h
 replace H := Option.bind_eq_some_iff.mp H
 obtain ⟨t135, A20, H⟩ := H
 replace H : (if t135 = true then (colloquylaw17_WindowRuns.j0 k l0 t135 (decide ((l0.length : Int) > 100))) else (colloquylaw17_WindowRuns.j0 k l0 t135 true)) = some r := H
 have A2 := Aside0.mk A20
 clear A20
 have HC3 := Aside0.mk H
 clear H
 go_enter Try.func5, Try.ntmps5
 go_upto_region 2 with (first | ((with_reducible refine gate_callee (f := 8) rfl ?_); refine goesL_ (some 16) rfl rfl Try.func8 (by kernel_rfl) rfl #[] rfl (by (try simp only [List.map_toArray, List.map_cons, List.map_nil]); first | done | rfl | (simp only [List.length_drop, List.length_take]; rfl)) ?_; (with_reducible refine (colloquylaw17_awake.calls k  t135 _ A2.out).mono ?_); rintro e w4 ⟨rfl, hb⟩; refine ⟨_, rfl, ?_⟩; have n0_ := Aside0.mk (below_step (by repeat (first | (with_reducible first | exact HB.out | apply below_alloc | apply pw_below_drewN | apply below_drew1) | exact HB.out)) hb); clear HB; have HB := n0_; clear n0_; (try clear hb); (try clear hb2); (try clear hk); (try clear hi)))
 (try simp only [Act.put, List.setIfInBounds_toArray, List.set_cons_zero, List.set_cons_succ])
 go_cut [23] (fun v23 wc => ∃ (kq : Nat) (x23_2 : Bool), v23 = .bool x23_2 ∧ Aside0 (colloquylaw17_WindowRuns.j0 kq l0 t135 x23_2 = some r) ∧ Aside0 (kq ≤ k) ∧ Aside0 (Below w.heap.size w wc))
 case first =>
  have H := HC3.out
  clear HC3
  by_cases c5 : t135 = true
  ·
   subst c5
   have H1 : (colloquylaw17_WindowRuns.j0 k l0 true (decide ((l0.length : Int) > 100))) = some r := by rw [if_pos rfl] at H; exact H
   clear H
   have H := H1
   clear H1
   have H' := Aside0.mk H
   clear H
   go_wp2
   go_meet
   case rel => exact ⟨_, (decide ((l0.length : Int) > 100)), (by first | rfl | (simp; done) | (simp [*]; done)), H', ⟨by first | omega | exact Nat.le_refl _⟩, ⟨by repeat (first | (with_reducible first | exact HB.out | apply below_alloc | apply pw_below_drewN | apply below_drew1) | exact HB.out)⟩⟩
  ·
   replace c5 := Bool.eq_false_iff.mpr c5
   subst c5
   have H1 : (colloquylaw17_WindowRuns.j0 k l0 false true) = some r := by rw [if_neg (show ¬ (false = true) by decide)] at H; exact H
   clear H
   have H := H1
   clear H1
   have H' := Aside0.mk H
   clear H
   go_wp2
   go_meet
   case rel => exact ⟨_, (true), (by first | rfl | (simp; done) | (simp [*]; done)), H', ⟨by first | omega | exact Nat.le_refl _⟩, ⟨by repeat (first | (with_reducible first | exact HB.out | apply below_alloc | apply pw_below_drewN | apply below_drew1) | exact HB.out)⟩⟩
 case rest =>
  clear HC3
  try clear p2
  try clear c5
  obtain ⟨kq, x23_2, rfl, HA, HJ2, HB⟩ := hcut
  cases kq with
  | zero => exact absurd HA.out (by simp [colloquylaw17_WindowRuns.j0])
  | succ kj2 =>
   have H := HA.out
   clear HA
   simp only [colloquylaw17_WindowRuns.j0] at H
   by_cases c6 : x23_2 = true
   ·
    subst c6
    have H1 : (some t135) = some r := by rw [if_pos rfl] at H; exact H
    clear H
    have H := H1
    clear H1
    obtain rfl := Option.some.inj H
    go_wp2
    go_ret
    exact ⟨by first | rfl | (simp [errW_none, errW_some] <;> rfl) | (simp [*, errW_none, errW_some] <;> rfl), by repeat (first | (with_reducible first | exact HB.out | apply below_alloc | apply pw_below_drewN | apply below_drew1) | exact HB.out)⟩
   ·
    replace c6 := Bool.eq_false_iff.mpr c6
    subst c6
    have H1 : (colloquylaw17_WindowRuns.l0 kj2 l0 ([] : List Int) 0 0 ([] : List (S42))) = some r := by rw [if_neg (show ¬ (false = true) by decide)] at H; exact H
    clear H
    have H := H1
    clear H1
    have H' := Aside0.mk H
    clear H
    go_wp2_with (first | ((with_reducible refine gate_dst (N := 4) rfl ?_); (try (refine gate_guard (by rfl) ?_; dsimp only)); refine box_event ?hg (N := 4) ?hd (cs := #[.int .i64 0, .slice none 0 0]) (t := 24) ?hr ?_; (case hd => rfl); (case hg => rfl); (case hr => first | (go_simp; done) | (go_simp; rfl)); intro gb136 hg w7 hbox hb; have n0_ := Aside0.mk (below_step (by repeat (first | (with_reducible first | exact HB.out | apply below_alloc | apply pw_below_drewN | apply below_drew1) | exact HB.out)) hb); have n1_ := Aside0.mk (hbox); have n2_ := Aside0.mk ((by rw [hg]; exact (below_size (by repeat (first | (with_reducible first | exact HB.out | apply below_alloc | apply pw_below_drewN | apply below_drew1) | exact HB.out))) : w.heap.size ≤ gb136)); have n3_ := Aside0.mk ((by rw [hg]; exact (below_size (by repeat (first | (with_reducible first | exact HB.out | apply below_alloc | apply pw_below_drewN | apply below_drew1) | exact HB.out))) : w.heap.size ≤ gb136)); clear HB; have HB := n0_; have BK136 := n1_; have GW136 := n2_; have GE136 := n3_; clear n0_ n1_ n2_ n3_; clear hb hbox hg; have hcz8_0 : w7.cell? ⟨gb136, 0, none⟩ = some (.int .i64 0) := (blk_cell BK136.out 0).trans rfl; have hcz8_1 : w7.cell? ⟨gb136, 1, none⟩ = some (.slice none 0 0) := (blk_cell BK136.out 1).trans rfl; have hfz8_0 := blk_frozen BK136.out 0; have hfz8_1 := blk_frozen BK136.out 1))
    go_loopg [5, 6] kj2 (fun kq v5 v6 w' => ∃ (x5_2 : List Int) (x6_2 : Int) (x137000_2 : Int) (x137001_2 : List (S42)) (u137001 : Value), v6 = .int .i64 x6_2 ∧ Aside0 (colloquylaw17_WindowRuns.l0 kq l0 x5_2 x6_2 x137000_2 x137001_2 = some r) ∧ Aside0 (kq ≤ kj2) ∧ Aside0 (Kd.R (Kd.int .i64) 3 w' w.heap.size (fun _ => True) v5 x5_2) ∧ Aside0 (Kd.V k42 42 w' w.heap.size (fun k_ => some k_ ≠ (v5 : Value).ownBlock ∧ k_ ≠ gb136) u137001 x137001_2) ∧ Aside0 (w'.heap[gb136]? = some (.cells #[.int .i64 x137000_2, u137001] 24 (0, 0))) ∧ Aside0 (Below w.heap.size w w'))
    case atStart => exact ⟨(([] : List Int)), (0), (0), (([] : List (S42))), (.slice none 0 0), (by first | rfl | (simp; done) | (simp [*]; done)), H', ⟨Nat.le_refl _⟩, ⟨by first | exact Kd.R_nil _ _ _ _ _ | exact Kd.N_nil _ _ _ _ _ | exact Kd.V_nil _ _ _ _ _ | exact Kd.Q_nil _ _ _ _ _ | exact Kd.S_nil _ _ _ _ _⟩, ⟨by first | exact Kd.V_nil _ _ _ _ _ | exact Kd.R_V (by first | exact Kd.R_nil _ _ _ _ _ | exact Kd.N_nil _ _ _ _ _ | exact Kd.V_nil _ _ _ _ _ | exact Kd.Q_nil _ _ _ _ _ | exact Kd.S_nil _ _ _ _ _)⟩, ⟨by (with_reducible repeat first | refine B1 ?_ _ | refine B2 ?_ | refine B3 ?_ _); refine blk_put (cs := #[.int .i64 0, .slice none 0 0]) ?_ 1 _ rfl; (with_reducible repeat first | refine B1 ?_ _ | refine B2 ?_ | refine B3 ?_ _); refine blk_put (cs := #[.int .i64 0, .slice none 0 0]) ?_ 0 _ rfl; (with_reducible repeat first | refine B1 ?_ _ | refine B2 ?_ | refine B3 ?_ _); exact BK136.out⟩, ⟨by repeat (first | (with_reducible first | exact HB.out | apply below_alloc | apply pw_below_drewN | apply below_drew1 | refine below_set ?_ GE136.out) | exact HB.out)⟩⟩
    case round =>
     clear H'
     try clear p2
     try clear c5
     try clear c6
     try clear c8
     try clear hcz8_0
     try clear hcz8_1
     try clear hfz8_0
     try clear hfz8_1
     try clear p2
     obtain ⟨x5_2, x6_2, x137000_2, x137001_2, u137001, rfl, HA, HK2, HO_5, HO_137001, BK136, HB⟩ := hrel
     cases gk with
     | zero => exact absurd HA.out (by simp [colloquylaw17_WindowRuns.l0])
     | succ k2 =>
      have H := HA.out
      clear HA
      simp only [colloquylaw17_WindowRuns.l0] at H
      by_cases c9 : x6_2 < (l0.length : Int)
      ·
       rw [if_pos c9] at H
       have c9b0 : decide (x6_2 < (l0.length : Int)) = true := decide_eq_true c9
       clear c9
       by_cases c10 : 0 ≤ x6_2
       ·
        rw [if_pos c10] at H
        have c10b0 : decide (0 ≤ x6_2) = true := decide_eq_true c10
        clear c10
        replace H := Option.bind_eq_some_iff.mp H
        obtain ⟨⟨t138, t139, t142⟩, A110, H⟩ := H
        replace H : (if t142 = 0 then (colloquylaw17_WindowRuns.l1 k2 l0 x5_2 x6_2 0 t138 t139) else (colloquylaw17_WindowRuns.l0 k2 l0 x5_2 (wrap64 (x6_2 + 1)) x137000_2 x137001_2)) = some r := H
        have A11 := Aside0.mk A110
        clear A110
        by_cases c12 : t142 = 0
        ·
         rw [if_pos c12] at H
         have c12b0 : (t142 == 0) = true := beq_iff_eq.mpr c12
         have c12b1 : (t142 != 0) = false := bne_eq_false_iff_eq.mpr c12
         clear c12
         have H' := Aside0.mk H
         clear H
         obtain ⟨Ao13, co13, eo13⟩ := Kd.V_slice HO_137001.out
         subst eo13
         try go_wp2
         have n0_ := Aside0.mk (Kd.R_drew HO_5.out)
         have n1_ := Aside0.mk (Kd.V_drew HO_137001.out)
         have n2_ := Aside0.mk (blk_drew BK136.out)
         have n3_ := Aside0.mk (below_drew1 HB.out)
         clear HO_5
         clear HO_137001
         clear BK136
         clear HB
         have HO_5 := n0_
         have HO_137001 := n1_
         have BK136 := n2_
         have HB := n3_
         clear n0_ n1_ n2_ n3_
         have p137 : 0 ≤ (x6_2 : Int) := of_decide_eq_true (by first | (with_reducible assumption) | assumption)
         have q137 : x6_2 < (l0.length : Int) := of_decide_eq_true (by first | (with_reducible assumption) | assumption)
         obtain ⟨ad137, e137, hx137_0⟩ := Kd.at_int HR0.out x6_2 p137 q137
         have hw137_0 := hx137_0
         cases e137
         replace hx137_0 := (HB.out.cell (World.block_lt_of_cell? w _ hx137_0)).trans hx137_0
         replace p137 := eq_true p137
         replace q137 := eq_true q137
         refine start_ (n := 14) (S := fun w' => w'.cell? ⟨gb136, 0, none⟩ = some (.int .i64 x137000_2) ∧ w'.cell? ⟨gb136, 1, none⟩ = some (.slice Ao13 x137001_2.length co13) ∧ w'.cell? (ad137.add (x6_2).toNat) = some (.int .i64 (rd l0 x6_2))) (ds := []) #[false, false, false, false, false, false, false, false, false, false, false, false, false, false] (by kernel_rfl) rfl rfl ⟨(blk_cell BK136.out 0).trans rfl, (blk_cell BK136.out 1).trans rfl, ((HB.out.cell (World.block_lt_of_cell? w _ hw137_0)).trans hw137_0)⟩ (fun hHeld => ?_); refine with_tabW colloquylaw17_WindowRuns.tab9 colloquylaw17_WindowRuns.bits9 (fun HT_ HW_ => ?_)
         generalize wr.drew = w14 at HO_5 HO_137001 BK136 HB hx137_0 hHeld ⊢
         refine pure_ (i := 1) (N := some 34) (v := ?_) (a' := ?_) #[false, true, false, false, false, false, false, false, false, false, false, false, false, false] rfl rfl (any_of HT_.out (by kernel_rfl)) (fun _ _ _ h => h) (Or.inl ⟨by rfl, ?_⟩) ?_ ?_
         rotate_left
         ·
          intro w'
          go_simp
          with_reducible rfl
         rotate_left
         ·
          simp only [Act.put, B4, B5, B6, i64_w, i32_w]
          rfl
         refine pure_ (i := 2) (N := some 35) (v := ?_) (a' := ?_) #[false, true, true, false, false, false, false, false, false, false, false, false, false, false] rfl rfl (any_of HT_.out (by kernel_rfl)) (fun _ _ _ h => h) (Or.inl ⟨by rfl, ?_⟩) ?_ ?_
         rotate_left
         ·
          intro w'
          go_simp
          with_reducible rfl
         rotate_left
         ·
          simp only [Act.put, B4, B5, B6, i64_w, i32_w]
          rfl
         refine pure_ (i := 3) (N := some 36) (v := ?_) (a' := ?_) #[false, true, true, true, false, false, false, false, false, false, false, false, false, false] rfl rfl (any_of HT_.out (by kernel_rfl)) (fun _ _ _ h => h) (Or.inl ⟨by rfl, ?_⟩) ?_ ?_
         rotate_left
         ·
          intro w'
          go_simp
          with_reducible rfl
         rotate_left
         ·
          simp only [Act.put, B4, B5, B6, i64_w, i32_w]
          rfl
         refine pure_ (i := 5) (N := some 38) (v := ?_) (a' := ?_) #[false, true, true, true, false, true, false, false, false, false, false, false, false, false] rfl rfl (any_of HT_.out (by kernel_rfl)) (fun _ _ _ h => h) (Or.inl ⟨by rfl, ?_⟩) ?_ ?_
         rotate_left
         ·
          intro w'
          go_simp
          with_reducible rfl
         rotate_left
         ·
          simp only [Act.put, B4, B5, B6, i64_w, i32_w]
          rfl
         refine pure_ (i := 6) (N := some 39) (v := ?_) (a' := ?_) #[false, true, true, true, false, true, true, false, false, false, false, false, false, false] rfl rfl (any_of HT_.out (by kernel_rfl)) (fun _ _ _ h => h) (Or.inl ⟨by rfl, ?_⟩) ?_ ?_
         rotate_left
         ·
          intro w'
          go_simp
          with_reducible rfl
         rotate_left
         ·
          simp only [Act.put, B4, B5, B6, i64_w, i32_w]
          rfl
         refine take_ (i := 0) (N := some 33) (v := ?_) (a' := ?_) #[true, true, true, true, false, true, true, false, false, false, false, false, false, false] rfl rfl (take_ofW HT_.out HW_.out (by kernel_rfl)) (fun _ _ _ h => h) (Or.inl ⟨by rfl, ?_⟩) hHeld ?_ ?_
         rotate_left
         ·
          rintro w' ⟨s0, s1, s2⟩
          go_simp
          with_reducible rfl
         rotate_left
         ·
          simp only [Act.put, B4, B5, B6, i64_w, i32_w]
          rfl
         refine take_ (i := 4) (N := some 37) (v := ?_) (a' := ?_) #[true, true, true, true, true, true, true, false, false, false, false, false, false, false] rfl rfl (take_ofW HT_.out HW_.out (by kernel_rfl)) (fun _ _ _ h => h) (Or.inl ⟨by rfl, ?_⟩) hHeld ?_ ?_
         rotate_left
         ·
          rintro w' ⟨s0, s1, s2⟩
          go_simp
          with_reducible rfl
         rotate_left
         ·
          simp only [Act.put, B4, B5, B6, i64_w, i32_w]
          rfl
         refine join_ (σ := Value × Nat) 2 #[true, true, true, true, true, true, true, true, true, true, true, true, false, false] (fun s_ => [(40, .tuple #[.agg #[.int .i64 t138, s_.1], .int .i64 t142]), (7, .pointer (some ⟨s_.2, 0, none⟩)), (32, .tuple #[.agg #[.int .i64 t138, s_.1], .int .i64 t142]), (41, .agg #[.int .i64 t138, s_.1]), (42, .int .i64 t142)]) (fun s_ w' => (w'.cell? ⟨gb136, 0, none⟩ = some (.int .i64 x137000_2) ∧ w'.cell? ⟨gb136, 1, none⟩ = some (.slice Ao13 x137001_2.length co13) ∧ w'.cell? (ad137.add (x6_2).toNat) = some (.int .i64 (rd l0 x6_2))) ∧ (Kd.V k42 42 w' w.heap.size (fun k_ => some k_ ≠ (u5 : Value).ownBlock ∧ k_ ≠ gb136 ∧ k_ ≠ s_.2) s_.1 t139) ∧ (Kd.V k42 42 w' w.heap.size (fun k_ => some k_ ≠ (u5 : Value).ownBlock ∧ k_ ≠ gb136 ∧ k_ ≠ s_.2) (.slice Ao13 x137001_2.length co13) x137001_2) ∧ (Kd.R (Kd.int .i64) 3 w' w.heap.size (fun _ => True) u5 x5_2) ∧ (w'.heap[gb136]? = some (.cells #[.int .i64 x137000_2, .slice Ao13 x137001_2.length co13] 24 (0, 0))) ∧ (w'.heap[s_.2]? = some (.cells #[.int .i64 0, .slice none 0 0] 24 (0, 0))) ∧ (w.heap.size ≤ s_.2) ∧ (w.heap.size ≤ s_.2) ∧ (gb136 ≠ s_.2) ∧ (s_.2 ≠ gb136) ∧ (Below w.heap.size w w')) ?_ ?_
         rotate_left
         ·
          intro hCont
          refine two_ (i := 7) (j := 11) (Ni := some 40) (Nj := some 7) #[true, true, true, true, true, true, true, true, false, false, false, false, false, false] #[true, true, true, true, true, true, true, false, false, false, false, true, false, false] rfl rfl rfl rfl (two_of HT_.out (by kernel_rfl)) (by decide) (by decide) (fun K hK => ?_) (fun K hK => ?_)
          ·
           skip
           refine goes_ Try.func12 (by kernel_rfl) rfl #[.agg #[.int .i64 x137000_2, .slice Ao13 x137001_2.length co13], .int .i64 (rd l0 x6_2), .agg #[.int .i64 0, .int .i64 x6_2, .string (⟨#[]⟩ : ByteArray)]] (by rfl) rfl rfl (by (try simp only [List.map_toArray, List.map_cons, List.map_nil]); first | done | rfl | (simp only [List.length_drop, List.length_take]; rfl)) ?_
           with_reducible refine (window_Put.calls k2 x137000_2 _ _ x137001_2 (rd l0 x6_2) 0 x6_2 (⟨#[]⟩ : ByteArray) t138 t139 t142 _ ?side1 ?side2 A11.out).mono ?_
           (case side1 => repeat (first | exact (Kd.V_reads' HO_137001.out).2.2 | (with_reducible refine Kd.C_alloc ?_ _) | (with_reducible refine Kd.C_drewN ?_ _) | (with_reducible refine Kd.C_drew ?_)))
           (case side2 => exact (Kd.V_reads' HO_137001.out).2.1)
           rintro e w15 ⟨v140, rfl, ho0, hb⟩
           refine ⟨_, rfl, ?_⟩
           have n0_ := Aside0.mk (Kd.R_below (by (with_reducible repeat (first | apply Kd.R_alloc | apply Kd.R_drewN | apply Kd.R_drew)); exact HO_5.out) hb)
           have n1_ := Aside0.mk (Kd.V_below (by (with_reducible repeat (first | apply Kd.V_alloc | apply Kd.V_drewN | apply Kd.V_drew)); exact HO_137001.out) hb)
           have n2_ := Aside0.mk (Kd.V_lower (Kd.V_mono (ok' := fun k_ => some k_ ≠ (u5 : Value).ownBlock ∧ k_ ≠ gb136) ho0 (fun k_ hk_ => ⟨(Kd.fresh' (Kd.R_lt (by (with_reducible repeat (first | apply Kd.R_alloc | apply Kd.R_drewN | apply Kd.R_drew)); exact HO_5.out)) k_ hk_), (Kd.freshB (g := gb136) (o := .cells #[.int .i64 x137000_2, .slice Ao13 x137001_2.length co13] 24 (0, 0)) (by (with_reducible repeat first | refine B1 ?_ _ | refine B2 ?_ | refine B3 ?_ _); exact BK136.out) k_ hk_)⟩)) (below_size (by repeat (first | (with_reducible first | exact HB.out | apply below_alloc | apply pw_below_drewN | apply below_drew1 | refine below_set ?_ GE136.out) | exact HB.out))))
           have n3_ := Aside0.mk (blk_below (g := gb136) (o := .cells #[.int .i64 x137000_2, .slice Ao13 x137001_2.length co13] 24 (0, 0)) (by (with_reducible repeat first | refine B1 ?_ _ | refine B2 ?_ | refine B3 ?_ _); exact BK136.out) hb)
           have n4_ := Aside0.mk (below_step (by repeat (first | (with_reducible first | exact HB.out | apply below_alloc | apply pw_below_drewN | apply below_drew1 | refine below_set ?_ GE136.out) | exact HB.out)) hb)
           clear HO_5
           clear HO_137001
           clear BK136
           clear HB
           have HO_5 := n0_
           have HO_137001 := n1_
           have HO141 := n2_
           have BK136 := n3_
           have HB := n4_
           clear n0_ n1_ n2_ n3_ n4_
           (try clear hb)
           (try clear hb2)
           (try clear hk)
           (try clear hi)
           (try clear ho0)
           refine hK.out _ _ ⟨(blk_cell BK136.out 0).trans rfl, (blk_cell BK136.out 1).trans rfl, ((HB.out.cell (World.block_lt_of_cell? w _ hw137_0)).trans hw137_0)⟩ (fun hHeld => ?_)
           clear hK K
           refine norm_ (a' := ?_) ?_ ?_
           rotate_left
           ·
            show Act.put _ (some 40) _ = _
            simp only [Act.put, B4, B5, B6, i64_w, i32_w]
            rfl
           refine pure_ (i := 8) (N := some 32) (v := ?_) (a' := ?_) #[true, true, true, true, true, true, true, true, true, false, false, false, false, false] rfl rfl (any_of HT_.out (by kernel_rfl)) (fun _ _ _ h => h) (Or.inl ⟨by rfl, ?_⟩) ?_ ?_
           rotate_left
           ·
            intro w'
            go_simp
            with_reducible rfl
           rotate_left
           ·
            simp only [Act.put, B4, B5, B6, i64_w, i32_w]
            rfl
           refine pure_ (i := 9) (N := some 41) (v := ?_) (a' := ?_) #[true, true, true, true, true, true, true, true, true, true, false, false, false, false] rfl rfl (any_of HT_.out (by kernel_rfl)) (fun _ _ _ h => h) (Or.inl ⟨by rfl, ?_⟩) ?_ ?_
           rotate_left
           ·
            intro w'
            go_simp
            with_reducible rfl
           rotate_left
           ·
            simp only [Act.put, B4, B5, B6, i64_w, i32_w]
            rfl
           refine pure_ (i := 10) (N := some 42) (v := ?_) (a' := ?_) #[true, true, true, true, true, true, true, true, true, true, true, false, false, false] rfl rfl (any_of HT_.out (by kernel_rfl)) (fun _ _ _ h => h) (Or.inl ⟨by rfl, ?_⟩) ?_ ?_
           rotate_left
           ·
            intro w'
            go_simp
            with_reducible rfl
           rotate_left
           ·
            simp only [Act.put, B4, B5, B6, i64_w, i32_w]
            rfl
           refine one_ (i := 11) (N := some 7) #[true, true, true, true, true, true, true, true, true, true, true, true, false, false] rfl rfl (one_of HT_.out (by kernel_rfl)) (by decide) (fun K hK => ?_)
           refine box_step ?hg (N := 7) ?hd (cs := #[.int .i64 0, .slice none 0 0]) (t := 24) ?hr ?_; (case hd => rfl); (case hg => rfl); (case hr => first | (go_simp; done) | (go_simp; rfl))
           intro gb143 hg w16 hbox hb
           have n0_ := Aside0.mk (Kd.R_below (by (with_reducible repeat (first | apply Kd.R_alloc | apply Kd.R_drewN | apply Kd.R_drew)); exact HO_5.out) hb)
           have n1_ := Aside0.mk (Kd.V_below (Kd.V_elderB (by (with_reducible repeat (first | apply Kd.V_alloc | apply Kd.V_drewN | apply Kd.V_drew)); exact HO_137001.out) gb143 (Nat.le_of_eq hg.symm)) hb)
           have n2_ := Aside0.mk (Kd.V_below (Kd.V_elderB (by (with_reducible repeat (first | apply Kd.V_alloc | apply Kd.V_drewN | apply Kd.V_drew)); exact HO141.out) gb143 (Nat.le_of_eq hg.symm)) hb)
           have n3_ := Aside0.mk (blk_below (g := gb136) (o := .cells #[.int .i64 x137000_2, .slice Ao13 x137001_2.length co13] 24 (0, 0)) (by (with_reducible repeat first | refine B1 ?_ _ | refine B2 ?_ | refine B3 ?_ _); exact BK136.out) hb)
           have n4_ := Aside0.mk (below_step (by repeat (first | (with_reducible first | exact HB.out | apply below_alloc | apply pw_below_drewN | apply below_drew1 | refine below_set ?_ GE136.out) | exact HB.out)) hb)
           have n5_ := Aside0.mk (hbox)
           have n6_ := Aside0.mk ((by rw [hg]; exact (below_size (by repeat (first | (with_reducible first | exact HB.out | apply below_alloc | apply pw_below_drewN | apply below_drew1 | refine below_set ?_ GE136.out) | exact HB.out))) : w.heap.size ≤ gb143))
           have n7_ := Aside0.mk ((by rw [hg]; exact (below_size (by repeat (first | (with_reducible first | exact HB.out | apply below_alloc | apply pw_below_drewN | apply below_drew1 | refine below_set ?_ GE136.out) | exact HB.out))) : w.heap.size ≤ gb143))
           have n8_ := Aside0.mk ((by rw [hg]; exact Nat.ne_of_lt (blk_lt (g := gb136) (o := .cells #[.int .i64 x137000_2, .slice Ao13 x137001_2.length co13] 24 (0, 0)) (by (with_reducible repeat first | refine B1 ?_ _ | refine B2 ?_ | refine B3 ?_ _); exact BK136.out)) : gb136 ≠ gb143))
           have n9_ := Aside0.mk ((by rw [hg]; exact Nat.ne_of_gt (blk_lt (g := gb136) (o := .cells #[.int .i64 x137000_2, .slice Ao13 x137001_2.length co13] 24 (0, 0)) (by (with_reducible repeat first | refine B1 ?_ _ | refine B2 ?_ | refine B3 ?_ _); exact BK136.out)) : gb143 ≠ gb136))
           clear HO_5
           clear HO_137001
           clear HO141
           clear BK136
           clear HB
           have HO_5 := n0_
           have HO_137001 := n1_
           have HO141 := n2_
           have BK136 := n3_
           have HB := n4_
           have BK143 := n5_
           have GW143 := n6_
           have GE143 := n7_
           have NB136_143 := n8_
           have NB143_136 := n9_
           clear n0_ n1_ n2_ n3_ n4_ n5_ n6_ n7_ n8_ n9_
           clear hb hbox hg
           refine hK.out _ _ ⟨(blk_cell BK136.out 0).trans rfl, (blk_cell BK136.out 1).trans rfl, ((HB.out.cell (World.block_lt_of_cell? w _ hw137_0)).trans hw137_0)⟩ (fun hHeld => ?_)
           clear hK K
           refine norm_ (a' := ?_) ?_ ?_
           rotate_left
           ·
            show Act.put _ (some 7) _ = _
            simp only [Act.put, B4, B5, B6, i64_w, i32_w]
            rfl
           exact norm_ (by simp only [putAll, Act.put, List.setIfInBounds_toArray, List.set_cons_zero, List.set_cons_succ]) (hCont (v140, gb143) _ ⟨hHeld, (by (with_reducible repeat (first | apply Kd.V_alloc | apply Kd.V_drewN | apply Kd.V_drew)); exact Kd.V_mono HO141.out (fun _ hk => ⟨hk.1.1, ⟨hk.1.2, hk.2⟩⟩)), (by (with_reducible repeat (first | apply Kd.V_alloc | apply Kd.V_drewN | apply Kd.V_drew)); exact Kd.V_mono HO_137001.out (fun _ hk => ⟨hk.1.1, ⟨hk.1.2, hk.2⟩⟩)), (by (with_reducible repeat (first | apply Kd.R_alloc | apply Kd.R_drewN | apply Kd.R_drew)); exact HO_5.out), (by (with_reducible repeat first | refine B1 ?_ _ | refine B2 ?_ | refine B3 ?_ _); exact BK136.out), (by (with_reducible repeat first | refine B1 ?_ _ | refine B2 ?_ | refine B3 ?_ _); exact BK143.out), GW143.out, GE143.out, NB136_143.out, NB143_136.out, (by repeat (first | (with_reducible first | exact HB.out | apply below_alloc | apply pw_below_drewN | apply below_drew1 | refine below_set ?_ GE136.out | refine below_set ?_ GE143.out) | exact HB.out))⟩)
          ·
           skip
           refine box_step ?hg (N := 7) ?hd (cs := #[.int .i64 0, .slice none 0 0]) (t := 24) ?hr ?_; (case hd => rfl); (case hg => rfl); (case hr => first | (go_simp; done) | (go_simp; rfl))
           intro gb143 hg w15 hbox hb
           have n0_ := Aside0.mk (Kd.R_below (by (with_reducible repeat (first | apply Kd.R_alloc | apply Kd.R_drewN | apply Kd.R_drew)); exact HO_5.out) hb)
           have n1_ := Aside0.mk (Kd.V_below (Kd.V_elderB (by (with_reducible repeat (first | apply Kd.V_alloc | apply Kd.V_drewN | apply Kd.V_drew)); exact HO_137001.out) gb143 (Nat.le_of_eq hg.symm)) hb)
           have n2_ := Aside0.mk (blk_below (g := gb136) (o := .cells #[.int .i64 x137000_2, .slice Ao13 x137001_2.length co13] 24 (0, 0)) (by (with_reducible repeat first | refine B1 ?_ _ | refine B2 ?_ | refine B3 ?_ _); exact BK136.out) hb)
           have n3_ := Aside0.mk (below_step (by repeat (first | (with_reducible first | exact HB.out | apply below_alloc | apply pw_below_drewN | apply below_drew1 | refine below_set ?_ GE136.out) | exact HB.out)) hb)
           have n4_ := Aside0.mk (hbox)
           have n5_ := Aside0.mk ((by rw [hg]; exact (below_size (by repeat (first | (with_reducible first | exact HB.out | apply below_alloc | apply pw_below_drewN | apply below_drew1 | refine below_set ?_ GE136.out) | exact HB.out))) : w.heap.size ≤ gb143))
           have n6_ := Aside0.mk ((by rw [hg]; exact (below_size (by repeat (first | (with_reducible first | exact HB.out | apply below_alloc | apply pw_below_drewN | apply below_drew1 | refine below_set ?_ GE136.out) | exact HB.out))) : w.heap.size ≤ gb143))
           have n7_ := Aside0.mk ((by rw [hg]; exact Nat.ne_of_lt (blk_lt (g := gb136) (o := .cells #[.int .i64 x137000_2, .slice Ao13 x137001_2.length co13] 24 (0, 0)) (by (with_reducible repeat first | refine B1 ?_ _ | refine B2 ?_ | refine B3 ?_ _); exact BK136.out)) : gb136 ≠ gb143))
           have n8_ := Aside0.mk ((by rw [hg]; exact Nat.ne_of_gt (blk_lt (g := gb136) (o := .cells #[.int .i64 x137000_2, .slice Ao13 x137001_2.length co13] 24 (0, 0)) (by (with_reducible repeat first | refine B1 ?_ _ | refine B2 ?_ | refine B3 ?_ _); exact BK136.out)) : gb143 ≠ gb136))
           clear HO_5
           clear HO_137001
           clear BK136
           clear HB
           have HO_5 := n0_
           have HO_137001 := n1_
           have BK136 := n2_
           have HB := n3_
           have BK143 := n4_
           have GW143 := n5_
           have GE143 := n6_
           have NB136_143 := n7_
           have NB143_136 := n8_
           clear n0_ n1_ n2_ n3_ n4_ n5_ n6_ n7_ n8_
           clear hb hbox hg
           refine hK.out _ _ ⟨(blk_cell BK136.out 0).trans rfl, (blk_cell BK136.out 1).trans rfl, ((HB.out.cell (World.block_lt_of_cell? w _ hw137_0)).trans hw137_0)⟩ (fun hHeld => ?_)
           clear hK K
           refine norm_ (a' := ?_) ?_ ?_
           rotate_left
           ·
            show Act.put _ (some 7) _ = _
            simp only [Act.put, B4, B5, B6, i64_w, i32_w]
            rfl
           refine one_ (i := 7) (N := some 40) #[true, true, true, true, true, true, true, true, false, false, false, true, false, false] rfl rfl (one_of HT_.out (by kernel_rfl)) (by decide) (fun K hK => ?_)
           refine goes_ Try.func12 (by kernel_rfl) rfl #[.agg #[.int .i64 x137000_2, .slice Ao13 x137001_2.length co13], .int .i64 (rd l0 x6_2), .agg #[.int .i64 0, .int .i64 x6_2, .string (⟨#[]⟩ : ByteArray)]] (by rfl) rfl rfl (by (try simp only [List.map_toArray, List.map_cons, List.map_nil]); first | done | rfl | (simp only [List.length_drop, List.length_take]; rfl)) ?_
           with_reducible refine (window_Put.calls k2 x137000_2 _ _ x137001_2 (rd l0 x6_2) 0 x6_2 (⟨#[]⟩ : ByteArray) t138 t139 t142 _ ?side1 ?side2 A11.out).mono ?_
           (case side1 => repeat (first | exact (Kd.V_reads' HO_137001.out).2.2 | (with_reducible refine Kd.C_alloc ?_ _) | (with_reducible refine Kd.C_drewN ?_ _) | (with_reducible refine Kd.C_drew ?_)))
           (case side2 => exact (Kd.V_reads' HO_137001.out).2.1)
           rintro e w16 ⟨v140, rfl, ho0, hb⟩
           refine ⟨_, rfl, ?_⟩
           have n0_ := Aside0.mk (Kd.R_below (by (with_reducible repeat (first | apply Kd.R_alloc | apply Kd.R_drewN | apply Kd.R_drew)); exact HO_5.out) hb)
           have n1_ := Aside0.mk (Kd.V_below (by (with_reducible repeat (first | apply Kd.V_alloc | apply Kd.V_drewN | apply Kd.V_drew)); exact HO_137001.out) hb)
           have n2_ := Aside0.mk (Kd.V_lower (Kd.V_mono (ok' := fun k_ => some k_ ≠ (u5 : Value).ownBlock ∧ k_ ≠ gb136 ∧ k_ ≠ gb143) ho0 (fun k_ hk_ => ⟨(Kd.fresh' (Kd.R_lt (by (with_reducible repeat (first | apply Kd.R_alloc | apply Kd.R_drewN | apply Kd.R_drew)); exact HO_5.out)) k_ hk_), (Kd.freshB (g := gb136) (o := .cells #[.int .i64 x137000_2, .slice Ao13 x137001_2.length co13] 24 (0, 0)) (by (with_reducible repeat first | refine B1 ?_ _ | refine B2 ?_ | refine B3 ?_ _); exact BK136.out) k_ hk_), (Kd.freshB (g := gb143) (o := .cells #[.int .i64 0, .slice none 0 0] 24 (0, 0)) (by (with_reducible repeat first | refine B1 ?_ _ | refine B2 ?_ | refine B3 ?_ _); exact BK143.out) k_ hk_)⟩)) (below_size (by repeat (first | (with_reducible first | exact HB.out | apply below_alloc | apply pw_below_drewN | apply below_drew1 | refine below_set ?_ GE136.out | refine below_set ?_ GE143.out) | exact HB.out))))
           have n3_ := Aside0.mk (blk_below (g := gb136) (o := .cells #[.int .i64 x137000_2, .slice Ao13 x137001_2.length co13] 24 (0, 0)) (by (with_reducible repeat first | refine B1 ?_ _ | refine B2 ?_ | refine B3 ?_ _); exact BK136.out) hb)
           have n4_ := Aside0.mk (blk_below (g := gb143) (o := .cells #[.int .i64 0, .slice none 0 0] 24 (0, 0)) (by (with_reducible repeat first | refine B1 ?_ _ | refine B2 ?_ | refine B3 ?_ _); exact BK143.out) hb)
           have n5_ := Aside0.mk (below_step (by repeat (first | (with_reducible first | exact HB.out | apply below_alloc | apply pw_below_drewN | apply below_drew1 | refine below_set ?_ GE136.out | refine below_set ?_ GE143.out) | exact HB.out)) hb)
           clear HO_5
           clear HO_137001
           clear BK136
           clear BK143
           clear HB
           have HO_5 := n0_
           have HO_137001 := n1_
           have HO141 := n2_
           have BK136 := n3_
           have BK143 := n4_
           have HB := n5_
           clear n0_ n1_ n2_ n3_ n4_ n5_
           (try clear hb)
           (try clear hb2)
           (try clear hk)
           (try clear hi)
           (try clear ho0)
           refine hK.out _ _ ⟨(blk_cell BK136.out 0).trans rfl, (blk_cell BK136.out 1).trans rfl, ((HB.out.cell (World.block_lt_of_cell? w _ hw137_0)).trans hw137_0)⟩ (fun hHeld => ?_)
           clear hK K
           refine norm_ (a' := ?_) ?_ ?_
           rotate_left
           ·
            show Act.put _ (some 40) _ = _
            simp only [Act.put, B4, B5, B6, i64_w, i32_w]
            rfl
           refine pure_ (i := 8) (N := some 32) (v := ?_) (a' := ?_) #[true, true, true, true, true, true, true, true, true, false, false, true, false, false] rfl rfl (any_of HT_.out (by kernel_rfl)) (fun _ _ _ h => h) (Or.inl ⟨by rfl, ?_⟩) ?_ ?_
           rotate_left
           ·
            intro w'
            go_simp
            with_reducible rfl
           rotate_left
           ·
            simp only [Act.put, B4, B5, B6, i64_w, i32_w]
            rfl
           refine pure_ (i := 9) (N := some 41) (v := ?_) (a' := ?_) #[true, true, true, true, true, true, true, true, true, true, false, true, false, false] rfl rfl (any_of HT_.out (by kernel_rfl)) (fun _ _ _ h => h) (Or.inl ⟨by rfl, ?_⟩) ?_ ?_
           rotate_left
           ·
            intro w'
            go_simp
            with_reducible rfl
           rotate_left
           ·
            simp only [Act.put, B4, B5, B6, i64_w, i32_w]
            rfl
           refine pure_ (i := 10) (N := some 42) (v := ?_) (a' := ?_) #[true, true, true, true, true, true, true, true, true, true, true, true, false, false] rfl rfl (any_of HT_.out (by kernel_rfl)) (fun _ _ _ h => h) (Or.inl ⟨by rfl, ?_⟩) ?_ ?_
           rotate_left
           ·
            intro w'
            go_simp
            with_reducible rfl
           rotate_left
           ·
            simp only [Act.put, B4, B5, B6, i64_w, i32_w]
            rfl
           exact norm_ (by simp only [putAll, Act.put, List.setIfInBounds_toArray, List.set_cons_zero, List.set_cons_succ]) (hCont (v140, gb143) _ ⟨hHeld, (by (with_reducible repeat (first | apply Kd.V_alloc | apply Kd.V_drewN | apply Kd.V_drew)); exact HO141.out), (by (with_reducible repeat (first | apply Kd.V_alloc | apply Kd.V_drewN | apply Kd.V_drew)); exact Kd.V_mono HO_137001.out (fun _ hk => ⟨hk.1.1, ⟨hk.1.2, hk.2⟩⟩)), (by (with_reducible repeat (first | apply Kd.R_alloc | apply Kd.R_drewN | apply Kd.R_drew)); exact HO_5.out), (by (with_reducible repeat first | refine B1 ?_ _ | refine B2 ?_ | refine B3 ?_ _); exact BK136.out), (by (with_reducible repeat first | refine B1 ?_ _ | refine B2 ?_ | refine B3 ?_ _); exact BK143.out), GW143.out, GE143.out, NB136_143.out, NB143_136.out, (by repeat (first | (with_reducible first | exact HB.out | apply below_alloc | apply pw_below_drewN | apply below_drew1 | refine below_set ?_ GE136.out | refine below_set ?_ GE143.out) | exact HB.out))⟩)
         rintro ⟨v140, gb143⟩ w17 ⟨hS_, h0_, h1_, h2_, h3_, h4_, h5_, h6_, h7_, h8_, h9_⟩
         have n0_ : Aside0 (Kd.V k42 42 w17 w.heap.size (fun k_ => some k_ ≠ (u5 : Value).ownBlock ∧ k_ ≠ gb136 ∧ k_ ≠ gb143) v140 t139) := ⟨h0_⟩
         have n1_ : Aside0 (Kd.V k42 42 w17 w.heap.size (fun k_ => some k_ ≠ (u5 : Value).ownBlock ∧ k_ ≠ gb136 ∧ k_ ≠ gb143) (.slice Ao13 x137001_2.length co13) x137001_2) := ⟨h1_⟩
         have n2_ : Aside0 (Kd.R (Kd.int .i64) 3 w17 w.heap.size (fun _ => True) u5 x5_2) := ⟨h2_⟩
         have n3_ : Aside0 (w17.heap[gb136]? = some (.cells #[.int .i64 x137000_2, .slice Ao13 x137001_2.length co13] 24 (0, 0))) := ⟨h3_⟩
         have n4_ : Aside0 (w17.heap[gb143]? = some (.cells #[.int .i64 0, .slice none 0 0] 24 (0, 0))) := ⟨h4_⟩
         have n5_ : Aside0 (w.heap.size ≤ gb143) := ⟨h5_⟩
         have n6_ : Aside0 (w.heap.size ≤ gb143) := ⟨h6_⟩
         have n7_ : Aside0 (gb136 ≠ gb143) := ⟨h7_⟩
         have n8_ : Aside0 (gb143 ≠ gb136) := ⟨h8_⟩
         have n9_ : Aside0 (Below w.heap.size w w17) := ⟨h9_⟩
         clear HO_5
         clear HO_137001
         clear BK136
         clear HB
         clear h0_ h1_ h2_ h3_ h4_ h5_ h6_ h7_ h8_ h9_
         have HO141 := n0_
         have HO_137001 := n1_
         have HO_5 := n2_
         have BK136 := n3_
         have BK143 := n4_
         have GW143 := n5_
         have GE143 := n6_
         have NB136_143 := n7_
         have NB143_136 := n8_
         have HB := n9_
         clear n0_ n1_ n2_ n3_ n4_ n5_ n6_ n7_ n8_ n9_
         have hHeld : w17.cell? ⟨gb136, 0, none⟩ = some (.int .i64 x137000_2) ∧ w17.cell? ⟨gb136, 1, none⟩ = some (.slice Ao13 x137001_2.length co13) ∧ w17.cell? (ad137.add (x6_2).toNat) = some (.int .i64 (rd l0 x6_2)) := hS_
         obtain ⟨Ao19, co19, eo19⟩ := Kd.V_slice HO141.out
         (first | subst eo19 | (injection eo19 with f1_ f2_ f3_; have f4_ := f1_.symm; have f5_ := f3_.symm; clear f1_ f2_ f3_; subst f4_; subst f5_))
         refine norm_ (a' := ?_) ?_ ?_
         rotate_left
         ·
          simp only [putAll, Act.put, List.setIfInBounds_toArray, List.set_cons_zero, List.set_cons_succ]
          rfl
         refine one_ (i := 12) (N := none) #[true, true, true, true, true, true, true, true, true, true, true, true, true, false] rfl rfl (one_of HT_.out (by kernel_rfl)) (by decide) (fun K hK => ?_)
         have hs18 : w17.cell? ⟨gb143, 0, none⟩ = some (.int .i64 0) := (blk_cell BK143.out 0).trans rfl
         have hfs18 := blk_frozen BK143.out 0
         have hns18_0 := NB136_143.out
         have hms18_0 := NB143_136.out
         have hs20 : w17.cell? ⟨gb143, 1, none⟩ = some (.slice none 0 0) := (blk_cell BK143.out 1).trans rfl
         have hfs20 := blk_frozen BK143.out 1
         have hns20_0 := NB136_143.out
         have hms20_0 := NB143_136.out
         refine skip_ (w1 := ?_) (by rfl) rfl ?_ ?_
         rotate_left
         ·
          go_simp
          rfl
         refine hK.out _ _ ⟨((cell_far (p := ⟨gb143, _, none⟩) NB136_143.out _).trans (((cell_far (p := ⟨gb143, _, none⟩) NB136_143.out _).trans (hHeld.1)))), ((cell_far (p := ⟨gb143, _, none⟩) NB136_143.out _).trans (((cell_far (p := ⟨gb143, _, none⟩) NB136_143.out _).trans (hHeld.2.1)))), ((cell_far (p := ⟨gb143, _, none⟩) (by first | exact Nat.ne_of_lt (Nat.lt_of_lt_of_le (by have := World.block_lt_of_cell? _ _ hw137_0; first | rwa [add_block] at this | exact this) GW143.out) | (rw [add_block]; exact Nat.ne_of_lt (Nat.lt_of_lt_of_le (by have := World.block_lt_of_cell? _ _ hw137_0; first | rwa [add_block] at this | exact this) GW143.out)) | (show (Addr.add _ _).block ≠ _; rw [add_block]; exact Nat.ne_of_lt (Nat.lt_of_lt_of_le (by have := World.block_lt_of_cell? _ _ hw137_0; first | rwa [add_block] at this | exact this) GW143.out)) | (dsimp only; exact Nat.ne_of_lt (Nat.lt_of_lt_of_le (by have := World.block_lt_of_cell? _ _ hw137_0; first | rwa [add_block] at this | exact this) GW143.out))) _).trans (((cell_far (p := ⟨gb143, _, none⟩) (by first | exact Nat.ne_of_lt (Nat.lt_of_lt_of_le (by have := World.block_lt_of_cell? _ _ hw137_0; first | rwa [add_block] at this | exact this) GW143.out) | (rw [add_block]; exact Nat.ne_of_lt (Nat.lt_of_lt_of_le (by have := World.block_lt_of_cell? _ _ hw137_0; first | rwa [add_block] at this | exact this) GW143.out)) | (show (Addr.add _ _).block ≠ _; rw [add_block]; exact Nat.ne_of_lt (Nat.lt_of_lt_of_le (by have := World.block_lt_of_cell? _ _ hw137_0; first | rwa [add_block] at this | exact this) GW143.out)) | (dsimp only; exact Nat.ne_of_lt (Nat.lt_of_lt_of_le (by have := World.block_lt_of_cell? _ _ hw137_0; first | rwa [add_block] at this | exact this) GW143.out))) _).trans (hHeld.2.2))))⟩ (fun hHeld => ?_)
         clear hK K
         refine pure_ (i := 13) (N := some 8) (v := ?_) (a' := ?_) #[true, true, true, true, true, true, true, true, true, true, true, true, true, true] rfl rfl (any_of HT_.out (by kernel_rfl)) (fun _ _ _ h => h) (Or.inl ⟨by rfl, ?_⟩) ?_ ?_
         rotate_left
         ·
          intro w'
          go_simp
          with_reducible rfl
         rotate_left
         ·
          simp only [Act.put, B4, B5, B6, i64_w, i32_w]
          rfl
         refine done_ (done_of HT_.out (by kernel_rfl)) ?_
         try go_wp2
         go_loopg [9] k2 (fun kq v9 w' => ∃ (x9_3 : Int), v9 = .int .i64 x9_3 ∧ Aside0 (colloquylaw17_WindowRuns.l1 kq l0 x5_2 x6_2 x9_3 t138 t139 = some r) ∧ Aside0 (kq ≤ k2) ∧ Aside0 (Kd.R (Kd.int .i64) 3 w' w.heap.size (fun _ => True) u5 x5_2) ∧ Aside0 (Kd.V k42 42 w' w.heap.size (fun k_ => some k_ ≠ (u5 : Value).ownBlock ∧ k_ ≠ gb136 ∧ k_ ≠ gb143) (.slice Ao13 x137001_2.length co13) x137001_2) ∧ Aside0 (Kd.V k42 42 w' w.heap.size (fun k_ => some k_ ≠ (u5 : Value).ownBlock ∧ k_ ≠ gb136 ∧ k_ ≠ gb143) (.slice Ao19 t139.length co19) t139) ∧ Aside0 (w'.heap[gb136]? = some (.cells #[.int .i64 x137000_2, (.slice Ao13 x137001_2.length co13)] 24 (0, 0))) ∧ Aside0 (w'.heap[gb143]? = some (.cells #[.int .i64 t138, (.slice Ao19 t139.length co19)] 24 (0, 0))) ∧ Aside0 (Below w.heap.size w w'))
         case atStart => exact ⟨(0), (by first | rfl | (simp; done) | (simp [*]; done)), H', ⟨Nat.le_refl _⟩, ⟨by (with_reducible repeat (first | apply Kd.R_alloc | apply Kd.R_drewN | apply Kd.R_drew)); exact Kd.R_mono (Kd.R_far (p := ⟨gb143, 1, none⟩) (Kd.R_far (p := ⟨gb143, 0, none⟩) (Kd.R_types HO_5.out BK143.out (by decide)) (fun _ hk => hk.2) (.int .i64 t138)) (fun _ hk => hk.2) (.slice Ao19 t139.length co19)) (fun _ hk => trivial)⟩, ⟨by (with_reducible repeat (first | apply Kd.V_alloc | apply Kd.V_drewN | apply Kd.V_drew)); exact Kd.V_mono (Kd.V_far (p := ⟨gb143, 1, none⟩) (Kd.V_far (p := ⟨gb143, 0, none⟩) (Kd.V_mono HO_137001.out (fun k_ hk => (⟨hk, hk.2.2⟩ : _ ∧ k_ ≠ gb143))) (fun _ hk => hk.2) (.int .i64 t138)) (fun _ hk => hk.2) (.slice Ao19 t139.length co19)) (fun _ hk => ⟨hk.1.1, ⟨hk.1.2.1, hk.1.2.2⟩⟩)⟩, ⟨by (with_reducible repeat (first | apply Kd.V_alloc | apply Kd.V_drewN | apply Kd.V_drew)); exact Kd.V_mono (Kd.V_far (p := ⟨gb143, 1, none⟩) (Kd.V_far (p := ⟨gb143, 0, none⟩) (Kd.V_mono HO141.out (fun k_ hk => (⟨hk, hk.2.2⟩ : _ ∧ k_ ≠ gb143))) (fun _ hk => hk.2) (.int .i64 t138)) (fun _ hk => hk.2) (.slice Ao19 t139.length co19)) (fun _ hk => ⟨hk.1.1, ⟨hk.1.2.1, hk.1.2.2⟩⟩)⟩, ⟨by (with_reducible repeat first | refine B1 ?_ _ | refine B2 ?_ | refine B3 ?_ _); refine blk_far ?_ NB136_143.out _; (with_reducible repeat first | refine B1 ?_ _ | refine B2 ?_ | refine B3 ?_ _); refine blk_far ?_ NB136_143.out _; (with_reducible repeat first | refine B1 ?_ _ | refine B2 ?_ | refine B3 ?_ _); exact BK136.out⟩, ⟨by (with_reducible repeat first | refine B1 ?_ _ | refine B2 ?_ | refine B3 ?_ _); refine blk_put (cs := #[.int .i64 t138, .slice none 0 0]) ?_ 1 _ rfl; (with_reducible repeat first | refine B1 ?_ _ | refine B2 ?_ | refine B3 ?_ _); refine blk_put (cs := #[.int .i64 0, .slice none 0 0]) ?_ 0 _ rfl; (with_reducible repeat first | refine B1 ?_ _ | refine B2 ?_ | refine B3 ?_ _); exact BK143.out⟩, ⟨by repeat (first | (with_reducible first | exact HB.out | apply below_alloc | apply pw_below_drewN | apply below_drew1 | refine below_set ?_ GE136.out | refine below_set ?_ GE143.out) | exact HB.out)⟩⟩
         case round =>
          clear H'
          try clear c1
          try clear p1
          try clear q1
          try clear hx1
          try clear p2
          try clear c5
          try clear c6
          try clear p6
          try clear c8
          try clear c9
          try clear c9b0
          try clear c10
          try clear c10b0
          try clear c12
          try clear c12b0
          try clear c12b1
          try clear p13
          try clear q13
          try clear hx13
          try clear hcz8_0
          try clear hcz8_1
          try clear hfz8_0
          try clear hfz8_1
          try clear hx137_0
          try clear p137
          try clear p2
          try clear q137
          obtain ⟨x9_3, rfl, HA, HK3, HO_5, HO_137001, HO_144001, BK136, BK143, HB⟩ := hrel
          cases gk with
          | zero => exact absurd HA.out (by simp [colloquylaw17_WindowRuns.l1])
          | succ k3 =>
           have H := HA.out
           clear HA
           simp only [colloquylaw17_WindowRuns.l1] at H
           by_cases c21 : x9_3 < (x5_2.length : Int)
           ·
            rw [if_pos c21] at H
            have c21b0 : decide (x9_3 < (x5_2.length : Int)) = true := decide_eq_true c21
            clear c21
            by_cases c22 : 0 ≤ x9_3
            ·
             rw [if_pos c22] at H
             have c22b0 : decide (0 ≤ x9_3) = true := decide_eq_true c22
             clear c22
             by_cases c23 : 0 ≤ x6_2
             ·
              rw [if_pos c23] at H
              have c23b0 : decide (0 ≤ x6_2) = true := decide_eq_true c23
              clear c23
              by_cases c24 : x6_2 < (l0.length : Int)
              ·
               rw [if_pos c24] at H
               have c24b0 : decide (x6_2 < (l0.length : Int)) = true := decide_eq_true c24
               clear c24
               by_cases c25 : (rd x5_2 x9_3) = (rd l0 x6_2)
               ·
                rw [if_pos c25] at H
                have c25b0 : ((rd x5_2 x9_3) == (rd l0 x6_2)) = true := beq_iff_eq.mpr c25
                have c25b1 : ((rd x5_2 x9_3) != (rd l0 x6_2)) = false := bne_eq_false_iff_eq.mpr c25
                clear c25
                obtain rfl := Option.some.inj H
                obtain ⟨Ao26, co26, eo26⟩ := Kd.R_slice HO_5.out
                subst eo26
                try go_wp2
                have n0_ := Aside0.mk (Kd.R_drew HO_5.out)
                have n1_ := Aside0.mk (Kd.V_drew HO_137001.out)
                have n2_ := Aside0.mk (Kd.V_drew HO_144001.out)
                have n3_ := Aside0.mk (blk_drew BK136.out)
                have n4_ := Aside0.mk (blk_drew BK143.out)
                have n5_ := Aside0.mk (below_drew1 HB.out)
                clear HO_5
                clear HO_137001
                clear HO_144001
                clear BK136
                clear BK143
                clear HB
                have HO_5 := n0_
                have HO_137001 := n1_
                have HO_144001 := n2_
                have BK136 := n3_
                have BK143 := n4_
                have HB := n5_
                clear n0_ n1_ n2_ n3_ n4_ n5_
                have p144 : 0 ≤ (x9_3 : Int) := of_decide_eq_true (by first | (with_reducible assumption) | assumption)
                have q144 : x9_3 < (x5_2.length : Int) := of_decide_eq_true (by first | (with_reducible assumption) | assumption)
                obtain ⟨ad144, e144, hx144_0⟩ := Kd.at_int (Kd.R_reads' HO_5.out).2.2 x9_3 p144 q144
                cases e144
                replace p144 := eq_true p144
                replace q144 := eq_true q144
                have p145 : 0 ≤ (x6_2 : Int) := of_decide_eq_true (by first | (with_reducible assumption) | assumption)
                have q145 : x6_2 < (l0.length : Int) := of_decide_eq_true (by first | (with_reducible assumption) | assumption)
                obtain ⟨ad145, e145, hx145_0⟩ := Kd.at_int HR0.out x6_2 p145 q145
                have hw145_0 := hx145_0
                obtain rfl : ad137 = ad145 := (by injection e145)
                replace hx145_0 := (HB.out.cell (World.block_lt_of_cell? w _ hx145_0)).trans hx145_0
                replace p145 := eq_true p145
                replace q145 := eq_true q145
                refine start_ (n := 9) (S := fun w' => w'.cell? (ad144.add (x9_3).toNat) = some (.int .i64 (rd x5_2 x9_3)) ∧ w'.cell? (ad137.add (x6_2).toNat) = some (.int .i64 (rd l0 x6_2))) (ds := []) #[false, false, false, false, false, false, false, false, false] (by kernel_rfl) rfl rfl ⟨hx144_0, ((HB.out.cell (World.block_lt_of_cell? w _ hw145_0)).trans hw145_0)⟩ (fun hHeld => ?_); refine with_tabW colloquylaw17_WindowRuns.tab14 colloquylaw17_WindowRuns.bits14 (fun HT_ HW_ => ?_)
                generalize wr.drew = w27 at HO_5 HO_137001 HO_144001 BK136 BK143 HB hx144_0 hx145_0 hHeld ⊢
                refine pure_ (i := 0) (N := some 51) (v := ?_) (a' := ?_) #[true, false, false, false, false, false, false, false, false] rfl rfl (any_of HT_.out (by kernel_rfl)) (fun _ _ _ h => h) (Or.inl ⟨by rfl, ?_⟩) ?_ ?_
                rotate_left
                ·
                 intro w'
                 go_simp
                 with_reducible rfl
                rotate_left
                ·
                 simp only [Act.put, B4, B5, B6, i64_w, i32_w]
                 rfl
                refine pure_ (i := 1) (N := some 52) (v := ?_) (a' := ?_) #[true, true, false, false, false, false, false, false, false] rfl rfl (any_of HT_.out (by kernel_rfl)) (fun _ _ _ h => h) (Or.inl ⟨by rfl, ?_⟩) ?_ ?_
                rotate_left
                ·
                 intro w'
                 go_simp
                 with_reducible rfl
                rotate_left
                ·
                 simp only [Act.put, B4, B5, B6, i64_w, i32_w]
                 rfl
                refine pure_ (i := 2) (N := some 53) (v := ?_) (a' := ?_) #[true, true, true, false, false, false, false, false, false] rfl rfl (any_of HT_.out (by kernel_rfl)) (fun _ _ _ h => h) (Or.inl ⟨by rfl, ?_⟩) ?_ ?_
                rotate_left
                ·
                 intro w'
                 go_simp
                 with_reducible rfl
                rotate_left
                ·
                 simp only [Act.put, B4, B5, B6, i64_w, i32_w]
                 rfl
                refine pure_ (i := 4) (N := some 55) (v := ?_) (a' := ?_) #[true, true, true, false, true, false, false, false, false] rfl rfl (any_of HT_.out (by kernel_rfl)) (fun _ _ _ h => h) (Or.inl ⟨by rfl, ?_⟩) ?_ ?_
                rotate_left
                ·
                 intro w'
                 go_simp
                 with_reducible rfl
                rotate_left
                ·
                 simp only [Act.put, B4, B5, B6, i64_w, i32_w]
                 rfl
                refine pure_ (i := 5) (N := some 56) (v := ?_) (a' := ?_) #[true, true, true, false, true, true, false, false, false] rfl rfl (any_of HT_.out (by kernel_rfl)) (fun _ _ _ h => h) (Or.inl ⟨by rfl, ?_⟩) ?_ ?_
                rotate_left
                ·
                 intro w'
                 go_simp
                 with_reducible rfl
                rotate_left
                ·
                 simp only [Act.put, B4, B5, B6, i64_w, i32_w]
                 rfl
                refine pure_ (i := 6) (N := some 57) (v := ?_) (a' := ?_) #[true, true, true, false, true, true, true, false, false] rfl rfl (any_of HT_.out (by kernel_rfl)) (fun _ _ _ h => h) (Or.inl ⟨by rfl, ?_⟩) ?_ ?_
                rotate_left
                ·
                 intro w'
                 go_simp
                 with_reducible rfl
                rotate_left
                ·
                 simp only [Act.put, B4, B5, B6, i64_w, i32_w]
                 rfl
                refine take_ (i := 3) (N := some 54) (v := ?_) (a' := ?_) #[true, true, true, true, true, true, true, false, false] rfl rfl (take_ofW HT_.out HW_.out (by kernel_rfl)) (fun _ _ _ h => h) (Or.inl ⟨by rfl, ?_⟩) hHeld ?_ ?_
                rotate_left
                ·
                 rintro w' ⟨s0, s1⟩
                 go_simp
                 with_reducible rfl
                rotate_left
                ·
                 simp only [Act.put, B4, B5, B6, i64_w, i32_w]
                 rfl
                refine take_ (i := 7) (N := some 58) (v := ?_) (a' := ?_) #[true, true, true, true, true, true, true, true, false] rfl rfl (take_ofW HT_.out HW_.out (by kernel_rfl)) (fun _ _ _ h => h) (Or.inl ⟨by rfl, ?_⟩) hHeld ?_ ?_
                rotate_left
                ·
                 rintro w' ⟨s0, s1⟩
                 go_simp
                 with_reducible rfl
                rotate_left
                ·
                 simp only [Act.put, B4, B5, B6, i64_w, i32_w]
                 rfl
                refine pure_ (i := 8) (N := some 59) (v := ?_) (a' := ?_) #[true, true, true, true, true, true, true, true, true] rfl rfl (any_of HT_.out (by kernel_rfl)) (fun _ _ _ h => h) (Or.inl ⟨by rfl, ?_⟩) ?_ ?_
                rotate_left
                ·
                 intro w'
                 go_simp
                 with_reducible rfl
                rotate_left
                ·
                 simp only [Act.put, B4, B5, B6, i64_w, i32_w]
                 rfl
                refine done_ (done_of HT_.out (by kernel_rfl)) ?_
                try go_wp2
                go_ret
                exact ⟨by first | rfl | (simp [errW_none, errW_some] <;> rfl) | (simp [*, errW_none, errW_some] <;> rfl), by repeat (first | (with_reducible first | exact HB.out | apply below_alloc | apply pw_below_drewN | apply below_drew1 | refine below_set ?_ GE136.out | refine below_set ?_ GE143.out) | exact HB.out)⟩
               ·
                rw [if_neg c25] at H
                have c25b0 : ((rd x5_2 x9_3) == (rd l0 x6_2)) = false := beq_eq_false_iff_ne.mpr c25
                have c25b1 : ((rd x5_2 x9_3) != (rd l0 x6_2)) = true := bne_iff_ne.mpr c25
                have H' := Aside0.mk H
                clear H
                obtain ⟨Ao28, co28, eo28⟩ := Kd.R_slice HO_5.out
                subst eo28
                try go_wp2
                have n0_ := Aside0.mk (Kd.R_drew HO_5.out)
                have n1_ := Aside0.mk (Kd.V_drew HO_137001.out)
                have n2_ := Aside0.mk (Kd.V_drew HO_144001.out)
                have n3_ := Aside0.mk (blk_drew BK136.out)
                have n4_ := Aside0.mk (blk_drew BK143.out)
                have n5_ := Aside0.mk (below_drew1 HB.out)
                clear HO_5
                clear HO_137001
                clear HO_144001
                clear BK136
                clear BK143
                clear HB
                have HO_5 := n0_
                have HO_137001 := n1_
                have HO_144001 := n2_
                have BK136 := n3_
                have BK143 := n4_
                have HB := n5_
                clear n0_ n1_ n2_ n3_ n4_ n5_
                have p144 : 0 ≤ (x9_3 : Int) := of_decide_eq_true (by first | (with_reducible assumption) | assumption)
                have q144 : x9_3 < (x5_2.length : Int) := of_decide_eq_true (by first | (with_reducible assumption) | assumption)
                obtain ⟨ad144, e144, hx144_0⟩ := Kd.at_int (Kd.R_reads' HO_5.out).2.2 x9_3 p144 q144
                cases e144
                replace p144 := eq_true p144
                replace q144 := eq_true q144
                have p145 : 0 ≤ (x6_2 : Int) := of_decide_eq_true (by first | (with_reducible assumption) | assumption)
                have q145 : x6_2 < (l0.length : Int) := of_decide_eq_true (by first | (with_reducible assumption) | assumption)
                obtain ⟨ad145, e145, hx145_0⟩ := Kd.at_int HR0.out x6_2 p145 q145
                have hw145_0 := hx145_0
                obtain rfl : ad137 = ad145 := (by injection e145)
                replace hx145_0 := (HB.out.cell (World.block_lt_of_cell? w _ hx145_0)).trans hx145_0
                replace p145 := eq_true p145
                replace q145 := eq_true q145
                refine start_ (n := 9) (S := fun w' => w'.cell? (ad144.add (x9_3).toNat) = some (.int .i64 (rd x5_2 x9_3)) ∧ w'.cell? (ad137.add (x6_2).toNat) = some (.int .i64 (rd l0 x6_2))) (ds := []) #[false, false, false, false, false, false, false, false, false] (by kernel_rfl) rfl rfl ⟨hx144_0, ((HB.out.cell (World.block_lt_of_cell? w _ hw145_0)).trans hw145_0)⟩ (fun hHeld => ?_); refine with_tabW colloquylaw17_WindowRuns.tab14 colloquylaw17_WindowRuns.bits14 (fun HT_ HW_ => ?_)
                generalize wr.drew = w29 at HO_5 HO_137001 HO_144001 BK136 BK143 HB hx144_0 hx145_0 hHeld ⊢
                refine pure_ (i := 0) (N := some 51) (v := ?_) (a' := ?_) #[true, false, false, false, false, false, false, false, false] rfl rfl (any_of HT_.out (by kernel_rfl)) (fun _ _ _ h => h) (Or.inl ⟨by rfl, ?_⟩) ?_ ?_
                rotate_left
                ·
                 intro w'
                 go_simp
                 with_reducible rfl
                rotate_left
                ·
                 simp only [Act.put, B4, B5, B6, i64_w, i32_w]
                 rfl
                refine pure_ (i := 1) (N := some 52) (v := ?_) (a' := ?_) #[true, true, false, false, false, false, false, false, false] rfl rfl (any_of HT_.out (by kernel_rfl)) (fun _ _ _ h => h) (Or.inl ⟨by rfl, ?_⟩) ?_ ?_
                rotate_left
                ·
                 intro w'
                 go_simp
                 with_reducible rfl
                rotate_left
                ·
                 simp only [Act.put, B4, B5, B6, i64_w, i32_w]
                 rfl
                refine pure_ (i := 2) (N := some 53) (v := ?_) (a' := ?_) #[true, true, true, false, false, false, false, false, false] rfl rfl (any_of HT_.out (by kernel_rfl)) (fun _ _ _ h => h) (Or.inl ⟨by rfl, ?_⟩) ?_ ?_
                rotate_left
                ·
                 intro w'
                 go_simp
                 with_reducible rfl
                rotate_left
                ·
                 simp only [Act.put, B4, B5, B6, i64_w, i32_w]
                 rfl
                refine pure_ (i := 4) (N := some 55) (v := ?_) (a' := ?_) #[true, true, true, false, true, false, false, false, false] rfl rfl (any_of HT_.out (by kernel_rfl)) (fun _ _ _ h => h) (Or.inl ⟨by rfl, ?_⟩) ?_ ?_
                rotate_left
                ·
                 intro w'
                 go_simp
                 with_reducible rfl
                rotate_left
                ·
                 simp only [Act.put, B4, B5, B6, i64_w, i32_w]
                 rfl
                refine pure_ (i := 5) (N := some 56) (v := ?_) (a' := ?_) #[true, true, true, false, true, true, false, false, false] rfl rfl (any_of HT_.out (by kernel_rfl)) (fun _ _ _ h => h) (Or.inl ⟨by rfl, ?_⟩) ?_ ?_
                rotate_left
                ·
                 intro w'
                 go_simp
                 with_reducible rfl
                rotate_left
                ·
                 simp only [Act.put, B4, B5, B6, i64_w, i32_w]
                 rfl
                refine pure_ (i := 6) (N := some 57) (v := ?_) (a' := ?_) #[true, true, true, false, true, true, true, false, false] rfl rfl (any_of HT_.out (by kernel_rfl)) (fun _ _ _ h => h) (Or.inl ⟨by rfl, ?_⟩) ?_ ?_
                rotate_left
                ·
                 intro w'
                 go_simp
                 with_reducible rfl
                rotate_left
                ·
                 simp only [Act.put, B4, B5, B6, i64_w, i32_w]
                 rfl
                refine take_ (i := 3) (N := some 54) (v := ?_) (a' := ?_) #[true, true, true, true, true, true, true, false, false] rfl rfl (take_ofW HT_.out HW_.out (by kernel_rfl)) (fun _ _ _ h => h) (Or.inl ⟨by rfl, ?_⟩) hHeld ?_ ?_
                rotate_left
                ·
                 rintro w' ⟨s0, s1⟩
                 go_simp
                 with_reducible rfl
                rotate_left
                ·
                 simp only [Act.put, B4, B5, B6, i64_w, i32_w]
                 rfl
                refine take_ (i := 7) (N := some 58) (v := ?_) (a' := ?_) #[true, true, true, true, true, true, true, true, false] rfl rfl (take_ofW HT_.out HW_.out (by kernel_rfl)) (fun _ _ _ h => h) (Or.inl ⟨by rfl, ?_⟩) hHeld ?_ ?_
                rotate_left
                ·
                 rintro w' ⟨s0, s1⟩
                 go_simp
                 with_reducible rfl
                rotate_left
                ·
                 simp only [Act.put, B4, B5, B6, i64_w, i32_w]
                 rfl
                refine pure_ (i := 8) (N := some 59) (v := ?_) (a' := ?_) #[true, true, true, true, true, true, true, true, true] rfl rfl (any_of HT_.out (by kernel_rfl)) (fun _ _ _ h => h) (Or.inl ⟨by rfl, ?_⟩) ?_ ?_
                rotate_left
                ·
                 intro w'
                 go_simp
                 with_reducible rfl
                rotate_left
                ·
                 simp only [Act.put, B4, B5, B6, i64_w, i32_w]
                 rfl
                refine done_ (done_of HT_.out (by kernel_rfl)) ?_
                try go_wp2
                go_roundg k3
                case measure => have := HJ2.out; have := HK2.out; have := HK3.out; omega
                case rel => exact ⟨(wrap64 (x9_3 + 1)), (by first | rfl | (simp; done) | (simp [*]; done)), H', ⟨by have := HJ2.out; have := HK2.out; have := HK3.out; omega⟩, ⟨by (with_reducible repeat (first | apply Kd.R_alloc | apply Kd.R_drewN | apply Kd.R_drew)); exact HO_5.out⟩, ⟨by (with_reducible repeat (first | apply Kd.V_alloc | apply Kd.V_drewN | apply Kd.V_drew)); exact HO_137001.out⟩, ⟨by (with_reducible repeat (first | apply Kd.V_alloc | apply Kd.V_drewN | apply Kd.V_drew)); exact HO_144001.out⟩, ⟨by (with_reducible repeat first | refine B1 ?_ _ | refine B2 ?_ | refine B3 ?_ _); exact BK136.out⟩, ⟨by (with_reducible repeat first | refine B1 ?_ _ | refine B2 ?_ | refine B3 ?_ _); exact BK143.out⟩, ⟨by repeat (first | (with_reducible first | exact HB.out | apply below_alloc | apply pw_below_drewN | apply below_drew1 | refine below_set ?_ GE136.out | refine below_set ?_ GE143.out) | exact HB.out)⟩⟩
              ·
               rw [if_neg c24] at H
               exact absurd H (by simp)
             ·
              rw [if_neg c23] at H
              exact absurd H (by simp)
            ·
             rw [if_neg c22] at H
             exact absurd H (by simp)
           ·
            rw [if_neg c21] at H
            have c21b0 : decide (x9_3 < (x5_2.length : Int)) = false := decide_eq_false c21
            clear c21
            by_cases c30 : 0 ≤ x6_2
            ·
             rw [if_pos c30] at H
             have c30b0 : decide (0 ≤ x6_2) = true := decide_eq_true c30
             clear c30
             by_cases c31 : x6_2 < (l0.length : Int)
             ·
              rw [if_pos c31] at H
              have c31b0 : decide (x6_2 < (l0.length : Int)) = true := decide_eq_true c31
              clear c31
              by_cases c32 : x5_2.length < 17592186044416
              ·
               rw [if_pos c32] at H
               have LMc32 := Aside0.mk c32
               clear c32
               obtain ⟨y147, hy147⟩ : ∃ y_ : List Int, y_ = (x5_2 ++ [rd l0 x6_2]) := ⟨_, rfl⟩
               replace H : (colloquylaw17_WindowRuns.l0 k3 l0 y147 (wrap64 (x6_2 + 1)) t138 t139) = some r := by first | (rw [hy147]; with_reducible exact H) | (have H2_ := (Option.bind_some _ _).symm.trans H; rw [hy147]; with_reducible exact H2_) | (have H2_ := (Option.bind_some _ _).symm.trans H; with_reducible exact H2_) | with_reducible exact H | (rw [hy147]; exact H) | exact H
               have Ny147 := Aside0.mk hy147
               clear hy147
               have H' := Aside0.mk H
               clear H
               obtain ⟨Ao33, co33, eo33⟩ := Kd.R_slice HO_5.out
               subst eo33
               have p146 : 0 ≤ (x6_2 : Int) := of_decide_eq_true (by first | (with_reducible assumption) | assumption)
               have q146 : x6_2 < (l0.length : Int) := of_decide_eq_true (by first | (with_reducible assumption) | assumption)
               obtain ⟨ad146, e146, hx146_0⟩ := Kd.at_int HR0.out x6_2 p146 q146
               obtain rfl : ad137 = ad146 := (by injection e146)
               replace hx146_0 := (HB.out.cell (World.block_lt_of_cell? w _ hx146_0)).trans hx146_0
               replace p146 := eq_true p146
               replace q146 := eq_true q146
               go_wp2_with (first | ((with_reducible refine gate_builtin (b := .append) (xs := #[.tmp 60, .tmp 65]) rfl ?_); (try (refine gate_guard (by rfl) ?_; dsimp only)); at_builtin; refine Kd.R_append (Kd.int .i64) (w0 := w) w.heap.size rfl (.tmp 60) (.tmp 65) 37 3 (.int .i64 0) 8 rfl Try.underlying37 info3 rfl (by decide) (by omega) (.slice Ao33 x5_2.length co33) x5_2 (rd l0 x6_2) [.int .i64 (rd l0 x6_2)] (fun _ => True) (fun _ => False) rfl rfl ?aP (fun _ hk => hk.elim) ?aF ?aO ?aB ?aS ?aL ?_; (case aP => exact rfl); (case aB => exact (by repeat (first | (with_reducible first | exact HB.out | apply below_alloc | apply pw_below_drewN | apply below_drew1 | refine below_set ?_ GE136.out | refine below_set ?_ GE143.out) | exact HB.out))); (case aF => exact (fun _ _ => trivial)); (case aO => exact (by (with_reducible repeat (first | apply Kd.R_alloc | apply Kd.R_drewN | apply Kd.R_drew)); exact HO_5.out)); (case aS => exact (below_size (by repeat (first | (with_reducible first | exact HB.out | apply below_alloc | apply pw_below_drewN | apply below_drew1 | refine below_set ?_ GE136.out | refine below_set ?_ GE143.out) | exact HB.out)))); (case aL => have := LMc32.out; omega); intro v148 w34 ho hb hg hat; rw [← Ny147.out] at ho; have n0_ := Aside0.mk (Kd.V_afterv (ok := (fun k_ => k_ ≠ gb136 ∧ k_ ≠ gb143)) (by (with_reducible repeat (first | apply Kd.V_alloc | apply Kd.V_drewN | apply Kd.V_drew)); exact Kd.V_mono HO_137001.out (fun _ hk => ⟨⟨hk.2.1, hk.2.2⟩, hk.1⟩)) hg hat); have n1_ := Aside0.mk (Kd.V_afterv (ok := (fun k_ => k_ ≠ gb136 ∧ k_ ≠ gb143)) (by (with_reducible repeat (first | apply Kd.V_alloc | apply Kd.V_drewN | apply Kd.V_drew)); exact Kd.V_mono HO_144001.out (fun _ hk => ⟨⟨hk.2.1, hk.2.2⟩, hk.1⟩)) hg hat); have n2_ := Aside0.mk (blk_grown (g := gb136) (o := .cells #[.int .i64 x137000_2, .slice Ao13 x137001_2.length co13] 24 (0, 0)) (by (with_reducible repeat first | refine B1 ?_ _ | refine B2 ?_ | refine B3 ?_ _); exact BK136.out) hg (Kd.R_ne HO_5.out BK136.out (by decide))); have n3_ := Aside0.mk (blk_grown (g := gb143) (o := .cells #[.int .i64 t138, .slice Ao19 t139.length co19] 24 (0, 0)) (by (with_reducible repeat first | refine B1 ?_ _ | refine B2 ?_ | refine B3 ?_ _); exact BK143.out) hg (Kd.R_ne HO_5.out BK143.out (by decide))); have n4_ := Aside0.mk (hb); have n5_ := Aside0.mk (ho); clear HO_137001; clear HO_144001; clear BK136; clear BK143; clear HB; clear HO_5; have HO_137001 := n0_; have HO_144001 := n1_; have BK136 := n2_; have BK143 := n3_; have HB := n4_; have HO149 := n5_; clear n0_ n1_ n2_ n3_ n4_ n5_; clear ho hb hg hat; have hnb35 := NB143_136.out; have hnc35 := NB136_143.out; have hcz36_0 : w34.cell? ⟨gb143, 0, none⟩ = some (.int .i64 t138) := (blk_cell BK143.out 0).trans rfl; have hcz36_1 : w34.cell? ⟨gb143, 1, none⟩ = some (.slice Ao19 t139.length co19) := (blk_cell BK143.out 1).trans rfl; have hfz36_0 := blk_frozen BK143.out 0; have hfz36_1 := blk_frozen BK143.out 1; have hcz37_0 : w34.cell? ⟨gb136, 0, none⟩ = some (.int .i64 x137000_2) := (blk_cell BK136.out 0).trans rfl; have hcz37_1 : w34.cell? ⟨gb136, 1, none⟩ = some (.slice Ao13 x137001_2.length co13) := (blk_cell BK136.out 1).trans rfl; have hfz37_0 := blk_frozen BK136.out 0; have hfz37_1 := blk_frozen BK136.out 1))
               go_roundg k3
               case measure => have := HJ2.out; have := HK2.out; have := HK3.out; omega
               case rel => exact ⟨(y147), (wrap64 (x6_2 + 1)), (t138), (t139), (.slice Ao19 t139.length co19), (by first | rfl | (simp; done) | (simp [*]; done)), H', ⟨by have := HJ2.out; have := HK2.out; have := HK3.out; omega⟩, ⟨by (with_reducible repeat (first | apply Kd.R_alloc | apply Kd.R_drewN | apply Kd.R_drew)); exact Kd.R_mono (Kd.R_far (p := ⟨gb136, 1, none⟩) (Kd.R_far (p := ⟨gb136, 0, none⟩) (Kd.R_types HO149.out BK136.out (by decide)) (fun _ hk => hk.2) (.int .i64 t138)) (fun _ hk => hk.2) (.slice Ao19 t139.length co19)) (fun _ hk => trivial)⟩, ⟨by (with_reducible repeat (first | apply Kd.V_alloc | apply Kd.V_drewN | apply Kd.V_drew)); exact Kd.V_mono (Kd.V_far (p := ⟨gb136, 1, none⟩) (Kd.V_far (p := ⟨gb136, 0, none⟩) (Kd.V_mono HO_144001.out (fun k_ hk => (⟨hk, hk.1.1⟩ : _ ∧ k_ ≠ gb136))) (fun _ hk => hk.2) (.int .i64 t138)) (fun _ hk => hk.2) (.slice Ao19 t139.length co19)) (fun _ hk => ⟨hk.1.2, hk.1.1.1⟩)⟩, ⟨by (with_reducible repeat first | refine B1 ?_ _ | refine B2 ?_ | refine B3 ?_ _); refine blk_put (cs := #[.int .i64 t138, .slice Ao13 x137001_2.length co13]) ?_ 1 _ rfl; (with_reducible repeat first | refine B1 ?_ _ | refine B2 ?_ | refine B3 ?_ _); refine blk_put (cs := #[.int .i64 x137000_2, .slice Ao13 x137001_2.length co13]) ?_ 0 _ rfl; (with_reducible repeat first | refine B1 ?_ _ | refine B2 ?_ | refine B3 ?_ _); exact BK136.out⟩, ⟨by repeat (first | (with_reducible first | exact HB.out | apply below_alloc | apply pw_below_drewN | apply below_drew1 | refine below_set ?_ GE136.out | refine below_set ?_ GE143.out) | exact HB.out)⟩⟩
              ·
               rw [if_neg c32] at H
               exact absurd H (by simp)
             ·
              rw [if_neg c31] at H
              exact absurd H (by simp)
            ·
             rw [if_neg c30] at H
             exact absurd H (by simp)
        ·
         rw [if_neg c12] at H
         have c12b0 : (t142 == 0) = false := beq_eq_false_iff_ne.mpr c12
         have c12b1 : (t142 != 0) = true := bne_iff_ne.mpr c12
         have H' := Aside0.mk H
         clear H
         obtain ⟨Ao38, co38, eo38⟩ := Kd.V_slice HO_137001.out
         subst eo38
         try go_wp2
         have n0_ := Aside0.mk (Kd.R_drew HO_5.out)
         have n1_ := Aside0.mk (Kd.V_drew HO_137001.out)
         have n2_ := Aside0.mk (blk_drew BK136.out)
         have n3_ := Aside0.mk (below_drew1 HB.out)
         clear HO_5
         clear HO_137001
         clear BK136
         clear HB
         have HO_5 := n0_
         have HO_137001 := n1_
         have BK136 := n2_
         have HB := n3_
         clear n0_ n1_ n2_ n3_
         have p137 : 0 ≤ (x6_2 : Int) := of_decide_eq_true (by first | (with_reducible assumption) | assumption)
         have q137 : x6_2 < (l0.length : Int) := of_decide_eq_true (by first | (with_reducible assumption) | assumption)
         obtain ⟨ad137, e137, hx137_0⟩ := Kd.at_int HR0.out x6_2 p137 q137
         have hw137_0 := hx137_0
         cases e137
         replace hx137_0 := (HB.out.cell (World.block_lt_of_cell? w _ hx137_0)).trans hx137_0
         replace p137 := eq_true p137
         replace q137 := eq_true q137
         refine start_ (n := 14) (S := fun w' => w'.cell? ⟨gb136, 0, none⟩ = some (.int .i64 x137000_2) ∧ w'.cell? ⟨gb136, 1, none⟩ = some (.slice Ao38 x137001_2.length co38) ∧ w'.cell? (ad137.add (x6_2).toNat) = some (.int .i64 (rd l0 x6_2))) (ds := []) #[false, false, false, false, false, false, false, false, false, false, false, false, false, false] (by kernel_rfl) rfl rfl ⟨(blk_cell BK136.out 0).trans rfl, (blk_cell BK136.out 1).trans rfl, ((HB.out.cell (World.block_lt_of_cell? w _ hw137_0)).trans hw137_0)⟩ (fun hHeld => ?_); refine with_tabW colloquylaw17_WindowRuns.tab9 colloquylaw17_WindowRuns.bits9 (fun HT_ HW_ => ?_)
         generalize wr.drew = w39 at HO_5 HO_137001 BK136 HB hx137_0 hHeld ⊢
         refine pure_ (i := 1) (N := some 34) (v := ?_) (a' := ?_) #[false, true, false, false, false, false, false, false, false, false, false, false, false, false] rfl rfl (any_of HT_.out (by kernel_rfl)) (fun _ _ _ h => h) (Or.inl ⟨by rfl, ?_⟩) ?_ ?_
         rotate_left
         ·
          intro w'
          go_simp
          with_reducible rfl
         rotate_left
         ·
          simp only [Act.put, B4, B5, B6, i64_w, i32_w]
          rfl
         refine pure_ (i := 2) (N := some 35) (v := ?_) (a' := ?_) #[false, true, true, false, false, false, false, false, false, false, false, false, false, false] rfl rfl (any_of HT_.out (by kernel_rfl)) (fun _ _ _ h => h) (Or.inl ⟨by rfl, ?_⟩) ?_ ?_
         rotate_left
         ·
          intro w'
          go_simp
          with_reducible rfl
         rotate_left
         ·
          simp only [Act.put, B4, B5, B6, i64_w, i32_w]
          rfl
         refine pure_ (i := 3) (N := some 36) (v := ?_) (a' := ?_) #[false, true, true, true, false, false, false, false, false, false, false, false, false, false] rfl rfl (any_of HT_.out (by kernel_rfl)) (fun _ _ _ h => h) (Or.inl ⟨by rfl, ?_⟩) ?_ ?_
         rotate_left
         ·
          intro w'
          go_simp
          with_reducible rfl
         rotate_left
         ·
          simp only [Act.put, B4, B5, B6, i64_w, i32_w]
          rfl
         refine pure_ (i := 5) (N := some 38) (v := ?_) (a' := ?_) #[false, true, true, true, false, true, false, false, false, false, false, false, false, false] rfl rfl (any_of HT_.out (by kernel_rfl)) (fun _ _ _ h => h) (Or.inl ⟨by rfl, ?_⟩) ?_ ?_
         rotate_left
         ·
          intro w'
          go_simp
          with_reducible rfl
         rotate_left
         ·
          simp only [Act.put, B4, B5, B6, i64_w, i32_w]
          rfl
         refine pure_ (i := 6) (N := some 39) (v := ?_) (a' := ?_) #[false, true, true, true, false, true, true, false, false, false, false, false, false, false] rfl rfl (any_of HT_.out (by kernel_rfl)) (fun _ _ _ h => h) (Or.inl ⟨by rfl, ?_⟩) ?_ ?_
         rotate_left
         ·
          intro w'
          go_simp
          with_reducible rfl
         rotate_left
         ·
          simp only [Act.put, B4, B5, B6, i64_w, i32_w]
          rfl
         refine take_ (i := 0) (N := some 33) (v := ?_) (a' := ?_) #[true, true, true, true, false, true, true, false, false, false, false, false, false, false] rfl rfl (take_ofW HT_.out HW_.out (by kernel_rfl)) (fun _ _ _ h => h) (Or.inl ⟨by rfl, ?_⟩) hHeld ?_ ?_
         rotate_left
         ·
          rintro w' ⟨s0, s1, s2⟩
          go_simp
          with_reducible rfl
         rotate_left
         ·
          simp only [Act.put, B4, B5, B6, i64_w, i32_w]
          rfl
         refine take_ (i := 4) (N := some 37) (v := ?_) (a' := ?_) #[true, true, true, true, true, true, true, false, false, false, false, false, false, false] rfl rfl (take_ofW HT_.out HW_.out (by kernel_rfl)) (fun _ _ _ h => h) (Or.inl ⟨by rfl, ?_⟩) hHeld ?_ ?_
         rotate_left
         ·
          rintro w' ⟨s0, s1, s2⟩
          go_simp
          with_reducible rfl
         rotate_left
         ·
          simp only [Act.put, B4, B5, B6, i64_w, i32_w]
          rfl
         refine join_ (σ := Value × Nat) 2 #[true, true, true, true, true, true, true, true, true, true, true, true, false, false] (fun s_ => [(40, .tuple #[.agg #[.int .i64 t138, s_.1], .int .i64 t142]), (7, .pointer (some ⟨s_.2, 0, none⟩)), (32, .tuple #[.agg #[.int .i64 t138, s_.1], .int .i64 t142]), (41, .agg #[.int .i64 t138, s_.1]), (42, .int .i64 t142)]) (fun s_ w' => (w'.cell? ⟨gb136, 0, none⟩ = some (.int .i64 x137000_2) ∧ w'.cell? ⟨gb136, 1, none⟩ = some (.slice Ao38 x137001_2.length co38) ∧ w'.cell? (ad137.add (x6_2).toNat) = some (.int .i64 (rd l0 x6_2))) ∧ (Kd.V k42 42 w' w.heap.size (fun k_ => some k_ ≠ (u5 : Value).ownBlock ∧ k_ ≠ gb136 ∧ k_ ≠ s_.2) s_.1 t139) ∧ (Kd.V k42 42 w' w.heap.size (fun k_ => some k_ ≠ (u5 : Value).ownBlock ∧ k_ ≠ gb136 ∧ k_ ≠ s_.2) (.slice Ao38 x137001_2.length co38) x137001_2) ∧ (Kd.R (Kd.int .i64) 3 w' w.heap.size (fun _ => True) u5 x5_2) ∧ (w'.heap[gb136]? = some (.cells #[.int .i64 x137000_2, .slice Ao38 x137001_2.length co38] 24 (0, 0))) ∧ (w'.heap[s_.2]? = some (.cells #[.int .i64 0, .slice none 0 0] 24 (0, 0))) ∧ (w.heap.size ≤ s_.2) ∧ (w.heap.size ≤ s_.2) ∧ (gb136 ≠ s_.2) ∧ (s_.2 ≠ gb136) ∧ (Below w.heap.size w w')) ?_ ?_
         rotate_left
         ·
          intro hCont
          refine two_ (i := 7) (j := 11) (Ni := some 40) (Nj := some 7) #[true, true, true, true, true, true, true, true, false, false, false, false, false, false] #[true, true, true, true, true, true, true, false, false, false, false, true, false, false] rfl rfl rfl rfl (two_of HT_.out (by kernel_rfl)) (by decide) (by decide) (fun K hK => ?_) (fun K hK => ?_)
          ·
           skip
           refine goes_ Try.func12 (by kernel_rfl) rfl #[.agg #[.int .i64 x137000_2, .slice Ao38 x137001_2.length co38], .int .i64 (rd l0 x6_2), .agg #[.int .i64 0, .int .i64 x6_2, .string (⟨#[]⟩ : ByteArray)]] (by rfl) rfl rfl (by (try simp only [List.map_toArray, List.map_cons, List.map_nil]); first | done | rfl | (simp only [List.length_drop, List.length_take]; rfl)) ?_
           with_reducible refine (window_Put.calls k2 x137000_2 _ _ x137001_2 (rd l0 x6_2) 0 x6_2 (⟨#[]⟩ : ByteArray) t138 t139 t142 _ ?side1 ?side2 A11.out).mono ?_
           (case side1 => repeat (first | exact (Kd.V_reads' HO_137001.out).2.2 | (with_reducible refine Kd.C_alloc ?_ _) | (with_reducible refine Kd.C_drewN ?_ _) | (with_reducible refine Kd.C_drew ?_)))
           (case side2 => exact (Kd.V_reads' HO_137001.out).2.1)
           rintro e w40 ⟨v140, rfl, ho0, hb⟩
           refine ⟨_, rfl, ?_⟩
           have n0_ := Aside0.mk (Kd.R_below (by (with_reducible repeat (first | apply Kd.R_alloc | apply Kd.R_drewN | apply Kd.R_drew)); exact HO_5.out) hb)
           have n1_ := Aside0.mk (Kd.V_below (by (with_reducible repeat (first | apply Kd.V_alloc | apply Kd.V_drewN | apply Kd.V_drew)); exact HO_137001.out) hb)
           have n2_ := Aside0.mk (Kd.V_lower (Kd.V_mono (ok' := fun k_ => some k_ ≠ (u5 : Value).ownBlock ∧ k_ ≠ gb136) ho0 (fun k_ hk_ => ⟨(Kd.fresh' (Kd.R_lt (by (with_reducible repeat (first | apply Kd.R_alloc | apply Kd.R_drewN | apply Kd.R_drew)); exact HO_5.out)) k_ hk_), (Kd.freshB (g := gb136) (o := .cells #[.int .i64 x137000_2, .slice Ao38 x137001_2.length co38] 24 (0, 0)) (by (with_reducible repeat first | refine B1 ?_ _ | refine B2 ?_ | refine B3 ?_ _); exact BK136.out) k_ hk_)⟩)) (below_size (by repeat (first | (with_reducible first | exact HB.out | apply below_alloc | apply pw_below_drewN | apply below_drew1 | refine below_set ?_ GE136.out) | exact HB.out))))
           have n3_ := Aside0.mk (blk_below (g := gb136) (o := .cells #[.int .i64 x137000_2, .slice Ao38 x137001_2.length co38] 24 (0, 0)) (by (with_reducible repeat first | refine B1 ?_ _ | refine B2 ?_ | refine B3 ?_ _); exact BK136.out) hb)
           have n4_ := Aside0.mk (below_step (by repeat (first | (with_reducible first | exact HB.out | apply below_alloc | apply pw_below_drewN | apply below_drew1 | refine below_set ?_ GE136.out) | exact HB.out)) hb)
           clear HO_5
           clear HO_137001
           clear BK136
           clear HB
           have HO_5 := n0_
           have HO_137001 := n1_
           have HO141 := n2_
           have BK136 := n3_
           have HB := n4_
           clear n0_ n1_ n2_ n3_ n4_
           (try clear hb)
           (try clear hb2)
           (try clear hk)
           (try clear hi)
           (try clear ho0)
           refine hK.out _ _ ⟨(blk_cell BK136.out 0).trans rfl, (blk_cell BK136.out 1).trans rfl, ((HB.out.cell (World.block_lt_of_cell? w _ hw137_0)).trans hw137_0)⟩ (fun hHeld => ?_)
           clear hK K
           refine norm_ (a' := ?_) ?_ ?_
           rotate_left
           ·
            show Act.put _ (some 40) _ = _
            simp only [Act.put, B4, B5, B6, i64_w, i32_w]
            rfl
           refine pure_ (i := 8) (N := some 32) (v := ?_) (a' := ?_) #[true, true, true, true, true, true, true, true, true, false, false, false, false, false] rfl rfl (any_of HT_.out (by kernel_rfl)) (fun _ _ _ h => h) (Or.inl ⟨by rfl, ?_⟩) ?_ ?_
           rotate_left
           ·
            intro w'
            go_simp
            with_reducible rfl
           rotate_left
           ·
            simp only [Act.put, B4, B5, B6, i64_w, i32_w]
            rfl
           refine pure_ (i := 9) (N := some 41) (v := ?_) (a' := ?_) #[true, true, true, true, true, true, true, true, true, true, false, false, false, false] rfl rfl (any_of HT_.out (by kernel_rfl)) (fun _ _ _ h => h) (Or.inl ⟨by rfl, ?_⟩) ?_ ?_
           rotate_left
           ·
            intro w'
            go_simp
            with_reducible rfl
           rotate_left
           ·
            simp only [Act.put, B4, B5, B6, i64_w, i32_w]
            rfl
           refine pure_ (i := 10) (N := some 42) (v := ?_) (a' := ?_) #[true, true, true, true, true, true, true, true, true, true, true, false, false, false] rfl rfl (any_of HT_.out (by kernel_rfl)) (fun _ _ _ h => h) (Or.inl ⟨by rfl, ?_⟩) ?_ ?_
           rotate_left
           ·
            intro w'
            go_simp
            with_reducible rfl
           rotate_left
           ·
            simp only [Act.put, B4, B5, B6, i64_w, i32_w]
            rfl
           refine one_ (i := 11) (N := some 7) #[true, true, true, true, true, true, true, true, true, true, true, true, false, false] rfl rfl (one_of HT_.out (by kernel_rfl)) (by decide) (fun K hK => ?_)
           refine box_step ?hg (N := 7) ?hd (cs := #[.int .i64 0, .slice none 0 0]) (t := 24) ?hr ?_; (case hd => rfl); (case hg => rfl); (case hr => first | (go_simp; done) | (go_simp; rfl))
           intro gb143 hg w41 hbox hb
           have n0_ := Aside0.mk (Kd.R_below (by (with_reducible repeat (first | apply Kd.R_alloc | apply Kd.R_drewN | apply Kd.R_drew)); exact HO_5.out) hb)
           have n1_ := Aside0.mk (Kd.V_below (Kd.V_elderB (by (with_reducible repeat (first | apply Kd.V_alloc | apply Kd.V_drewN | apply Kd.V_drew)); exact HO_137001.out) gb143 (Nat.le_of_eq hg.symm)) hb)
           have n2_ := Aside0.mk (Kd.V_below (Kd.V_elderB (by (with_reducible repeat (first | apply Kd.V_alloc | apply Kd.V_drewN | apply Kd.V_drew)); exact HO141.out) gb143 (Nat.le_of_eq hg.symm)) hb)
           have n3_ := Aside0.mk (blk_below (g := gb136) (o := .cells #[.int .i64 x137000_2, .slice Ao38 x137001_2.length co38] 24 (0, 0)) (by (with_reducible repeat first | refine B1 ?_ _ | refine B2 ?_ | refine B3 ?_ _); exact BK136.out) hb)
           have n4_ := Aside0.mk (below_step (by repeat (first | (with_reducible first | exact HB.out | apply below_alloc | apply pw_below_drewN | apply below_drew1 | refine below_set ?_ GE136.out) | exact HB.out)) hb)
           have n5_ := Aside0.mk (hbox)
           have n6_ := Aside0.mk ((by rw [hg]; exact (below_size (by repeat (first | (with_reducible first | exact HB.out | apply below_alloc | apply pw_below_drewN | apply below_drew1 | refine below_set ?_ GE136.out) | exact HB.out))) : w.heap.size ≤ gb143))
           have n7_ := Aside0.mk ((by rw [hg]; exact (below_size (by repeat (first | (with_reducible first | exact HB.out | apply below_alloc | apply pw_below_drewN | apply below_drew1 | refine below_set ?_ GE136.out) | exact HB.out))) : w.heap.size ≤ gb143))
           have n8_ := Aside0.mk ((by rw [hg]; exact Nat.ne_of_lt (blk_lt (g := gb136) (o := .cells #[.int .i64 x137000_2, .slice Ao38 x137001_2.length co38] 24 (0, 0)) (by (with_reducible repeat first | refine B1 ?_ _ | refine B2 ?_ | refine B3 ?_ _); exact BK136.out)) : gb136 ≠ gb143))
           have n9_ := Aside0.mk ((by rw [hg]; exact Nat.ne_of_gt (blk_lt (g := gb136) (o := .cells #[.int .i64 x137000_2, .slice Ao38 x137001_2.length co38] 24 (0, 0)) (by (with_reducible repeat first | refine B1 ?_ _ | refine B2 ?_ | refine B3 ?_ _); exact BK136.out)) : gb143 ≠ gb136))
           clear HO_5
           clear HO_137001
           clear HO141
           clear BK136
           clear HB
           have HO_5 := n0_
           have HO_137001 := n1_
           have HO141 := n2_
           have BK136 := n3_
           have HB := n4_
           have BK143 := n5_
           have GW143 := n6_
           have GE143 := n7_
           have NB136_143 := n8_
           have NB143_136 := n9_
           clear n0_ n1_ n2_ n3_ n4_ n5_ n6_ n7_ n8_ n9_
           clear hb hbox hg
           refine hK.out _ _ ⟨(blk_cell BK136.out 0).trans rfl, (blk_cell BK136.out 1).trans rfl, ((HB.out.cell (World.block_lt_of_cell? w _ hw137_0)).trans hw137_0)⟩ (fun hHeld => ?_)
           clear hK K
           refine norm_ (a' := ?_) ?_ ?_
           rotate_left
           ·
            show Act.put _ (some 7) _ = _
            simp only [Act.put, B4, B5, B6, i64_w, i32_w]
            rfl
           exact norm_ (by simp only [putAll, Act.put, List.setIfInBounds_toArray, List.set_cons_zero, List.set_cons_succ]) (hCont (v140, gb143) _ ⟨hHeld, (by (with_reducible repeat (first | apply Kd.V_alloc | apply Kd.V_drewN | apply Kd.V_drew)); exact Kd.V_mono HO141.out (fun _ hk => ⟨hk.1.1, ⟨hk.1.2, hk.2⟩⟩)), (by (with_reducible repeat (first | apply Kd.V_alloc | apply Kd.V_drewN | apply Kd.V_drew)); exact Kd.V_mono HO_137001.out (fun _ hk => ⟨hk.1.1, ⟨hk.1.2, hk.2⟩⟩)), (by (with_reducible repeat (first | apply Kd.R_alloc | apply Kd.R_drewN | apply Kd.R_drew)); exact HO_5.out), (by (with_reducible repeat first | refine B1 ?_ _ | refine B2 ?_ | refine B3 ?_ _); exact BK136.out), (by (with_reducible repeat first | refine B1 ?_ _ | refine B2 ?_ | refine B3 ?_ _); exact BK143.out), GW143.out, GE143.out, NB136_143.out, NB143_136.out, (by repeat (first | (with_reducible first | exact HB.out | apply below_alloc | apply pw_below_drewN | apply below_drew1 | refine below_set ?_ GE136.out | refine below_set ?_ GE143.out) | exact HB.out))⟩)
          ·
           skip
           refine box_step ?hg (N := 7) ?hd (cs := #[.int .i64 0, .slice none 0 0]) (t := 24) ?hr ?_; (case hd => rfl); (case hg => rfl); (case hr => first | (go_simp; done) | (go_simp; rfl))
           intro gb143 hg w40 hbox hb
           have n0_ := Aside0.mk (Kd.R_below (by (with_reducible repeat (first | apply Kd.R_alloc | apply Kd.R_drewN | apply Kd.R_drew)); exact HO_5.out) hb)
           have n1_ := Aside0.mk (Kd.V_below (Kd.V_elderB (by (with_reducible repeat (first | apply Kd.V_alloc | apply Kd.V_drewN | apply Kd.V_drew)); exact HO_137001.out) gb143 (Nat.le_of_eq hg.symm)) hb)
           have n2_ := Aside0.mk (blk_below (g := gb136) (o := .cells #[.int .i64 x137000_2, .slice Ao38 x137001_2.length co38] 24 (0, 0)) (by (with_reducible repeat first | refine B1 ?_ _ | refine B2 ?_ | refine B3 ?_ _); exact BK136.out) hb)
           have n3_ := Aside0.mk (below_step (by repeat (first | (with_reducible first | exact HB.out | apply below_alloc | apply pw_below_drewN | apply below_drew1 | refine below_set ?_ GE136.out) | exact HB.out)) hb)
           have n4_ := Aside0.mk (hbox)
           have n5_ := Aside0.mk ((by rw [hg]; exact (below_size (by repeat (first | (with_reducible first | exact HB.out | apply below_alloc | apply pw_below_drewN | apply below_drew1 | refine below_set ?_ GE136.out) | exact HB.out))) : w.heap.size ≤ gb143))
           have n6_ := Aside0.mk ((by rw [hg]; exact (below_size (by repeat (first | (with_reducible first | exact HB.out | apply below_alloc | apply pw_below_drewN | apply below_drew1 | refine below_set ?_ GE136.out) | exact HB.out))) : w.heap.size ≤ gb143))
           have n7_ := Aside0.mk ((by rw [hg]; exact Nat.ne_of_lt (blk_lt (g := gb136) (o := .cells #[.int .i64 x137000_2, .slice Ao38 x137001_2.length co38] 24 (0, 0)) (by (with_reducible repeat first | refine B1 ?_ _ | refine B2 ?_ | refine B3 ?_ _); exact BK136.out)) : gb136 ≠ gb143))
           have n8_ := Aside0.mk ((by rw [hg]; exact Nat.ne_of_gt (blk_lt (g := gb136) (o := .cells #[.int .i64 x137000_2, .slice Ao38 x137001_2.length co38] 24 (0, 0)) (by (with_reducible repeat first | refine B1 ?_ _ | refine B2 ?_ | refine B3 ?_ _); exact BK136.out)) : gb143 ≠ gb136))
           clear HO_5
           clear HO_137001
           clear BK136
           clear HB
           have HO_5 := n0_
           have HO_137001 := n1_
           have BK136 := n2_
           have HB := n3_
           have BK143 := n4_
           have GW143 := n5_
           have GE143 := n6_
           have NB136_143 := n7_
           have NB143_136 := n8_
           clear n0_ n1_ n2_ n3_ n4_ n5_ n6_ n7_ n8_
           clear hb hbox hg
           refine hK.out _ _ ⟨(blk_cell BK136.out 0).trans rfl, (blk_cell BK136.out 1).trans rfl, ((HB.out.cell (World.block_lt_of_cell? w _ hw137_0)).trans hw137_0)⟩ (fun hHeld => ?_)
           clear hK K
           refine norm_ (a' := ?_) ?_ ?_
           rotate_left
           ·
            show Act.put _ (some 7) _ = _
            simp only [Act.put, B4, B5, B6, i64_w, i32_w]
            rfl
           refine one_ (i := 7) (N := some 40) #[true, true, true, true, true, true, true, true, false, false, false, true, false, false] rfl rfl (one_of HT_.out (by kernel_rfl)) (by decide) (fun K hK => ?_)
           refine goes_ Try.func12 (by kernel_rfl) rfl #[.agg #[.int .i64 x137000_2, .slice Ao38 x137001_2.length co38], .int .i64 (rd l0 x6_2), .agg #[.int .i64 0, .int .i64 x6_2, .string (⟨#[]⟩ : ByteArray)]] (by rfl) rfl rfl (by (try simp only [List.map_toArray, List.map_cons, List.map_nil]); first | done | rfl | (simp only [List.length_drop, List.length_take]; rfl)) ?_
           with_reducible refine (window_Put.calls k2 x137000_2 _ _ x137001_2 (rd l0 x6_2) 0 x6_2 (⟨#[]⟩ : ByteArray) t138 t139 t142 _ ?side1 ?side2 A11.out).mono ?_
           (case side1 => repeat (first | exact (Kd.V_reads' HO_137001.out).2.2 | (with_reducible refine Kd.C_alloc ?_ _) | (with_reducible refine Kd.C_drewN ?_ _) | (with_reducible refine Kd.C_drew ?_)))
           (case side2 => exact (Kd.V_reads' HO_137001.out).2.1)
           rintro e w41 ⟨v140, rfl, ho0, hb⟩
           refine ⟨_, rfl, ?_⟩
           have n0_ := Aside0.mk (Kd.R_below (by (with_reducible repeat (first | apply Kd.R_alloc | apply Kd.R_drewN | apply Kd.R_drew)); exact HO_5.out) hb)
           have n1_ := Aside0.mk (Kd.V_below (by (with_reducible repeat (first | apply Kd.V_alloc | apply Kd.V_drewN | apply Kd.V_drew)); exact HO_137001.out) hb)
           have n2_ := Aside0.mk (Kd.V_lower (Kd.V_mono (ok' := fun k_ => some k_ ≠ (u5 : Value).ownBlock ∧ k_ ≠ gb136 ∧ k_ ≠ gb143) ho0 (fun k_ hk_ => ⟨(Kd.fresh' (Kd.R_lt (by (with_reducible repeat (first | apply Kd.R_alloc | apply Kd.R_drewN | apply Kd.R_drew)); exact HO_5.out)) k_ hk_), (Kd.freshB (g := gb136) (o := .cells #[.int .i64 x137000_2, .slice Ao38 x137001_2.length co38] 24 (0, 0)) (by (with_reducible repeat first | refine B1 ?_ _ | refine B2 ?_ | refine B3 ?_ _); exact BK136.out) k_ hk_), (Kd.freshB (g := gb143) (o := .cells #[.int .i64 0, .slice none 0 0] 24 (0, 0)) (by (with_reducible repeat first | refine B1 ?_ _ | refine B2 ?_ | refine B3 ?_ _); exact BK143.out) k_ hk_)⟩)) (below_size (by repeat (first | (with_reducible first | exact HB.out | apply below_alloc | apply pw_below_drewN | apply below_drew1 | refine below_set ?_ GE136.out | refine below_set ?_ GE143.out) | exact HB.out))))
           have n3_ := Aside0.mk (blk_below (g := gb136) (o := .cells #[.int .i64 x137000_2, .slice Ao38 x137001_2.length co38] 24 (0, 0)) (by (with_reducible repeat first | refine B1 ?_ _ | refine B2 ?_ | refine B3 ?_ _); exact BK136.out) hb)
           have n4_ := Aside0.mk (blk_below (g := gb143) (o := .cells #[.int .i64 0, .slice none 0 0] 24 (0, 0)) (by (with_reducible repeat first | refine B1 ?_ _ | refine B2 ?_ | refine B3 ?_ _); exact BK143.out) hb)
           have n5_ := Aside0.mk (below_step (by repeat (first | (with_reducible first | exact HB.out | apply below_alloc | apply pw_below_drewN | apply below_drew1 | refine below_set ?_ GE136.out | refine below_set ?_ GE143.out) | exact HB.out)) hb)
           clear HO_5
           clear HO_137001
           clear BK136
           clear BK143
           clear HB
           have HO_5 := n0_
           have HO_137001 := n1_
           have HO141 := n2_
           have BK136 := n3_
           have BK143 := n4_
           have HB := n5_
           clear n0_ n1_ n2_ n3_ n4_ n5_
           (try clear hb)
           (try clear hb2)
           (try clear hk)
           (try clear hi)
           (try clear ho0)
           refine hK.out _ _ ⟨(blk_cell BK136.out 0).trans rfl, (blk_cell BK136.out 1).trans rfl, ((HB.out.cell (World.block_lt_of_cell? w _ hw137_0)).trans hw137_0)⟩ (fun hHeld => ?_)
           clear hK K
           refine norm_ (a' := ?_) ?_ ?_
           rotate_left
           ·
            show Act.put _ (some 40) _ = _
            simp only [Act.put, B4, B5, B6, i64_w, i32_w]
            rfl
           refine pure_ (i := 8) (N := some 32) (v := ?_) (a' := ?_) #[true, true, true, true, true, true, true, true, true, false, false, true, false, false] rfl rfl (any_of HT_.out (by kernel_rfl)) (fun _ _ _ h => h) (Or.inl ⟨by rfl, ?_⟩) ?_ ?_
           rotate_left
           ·
            intro w'
            go_simp
            with_reducible rfl
           rotate_left
           ·
            simp only [Act.put, B4, B5, B6, i64_w, i32_w]
            rfl
           refine pure_ (i := 9) (N := some 41) (v := ?_) (a' := ?_) #[true, true, true, true, true, true, true, true, true, true, false, true, false, false] rfl rfl (any_of HT_.out (by kernel_rfl)) (fun _ _ _ h => h) (Or.inl ⟨by rfl, ?_⟩) ?_ ?_
           rotate_left
           ·
            intro w'
            go_simp
            with_reducible rfl
           rotate_left
           ·
            simp only [Act.put, B4, B5, B6, i64_w, i32_w]
            rfl
           refine pure_ (i := 10) (N := some 42) (v := ?_) (a' := ?_) #[true, true, true, true, true, true, true, true, true, true, true, true, false, false] rfl rfl (any_of HT_.out (by kernel_rfl)) (fun _ _ _ h => h) (Or.inl ⟨by rfl, ?_⟩) ?_ ?_
           rotate_left
           ·
            intro w'
            go_simp
            with_reducible rfl
           rotate_left
           ·
            simp only [Act.put, B4, B5, B6, i64_w, i32_w]
            rfl
           exact norm_ (by simp only [putAll, Act.put, List.setIfInBounds_toArray, List.set_cons_zero, List.set_cons_succ]) (hCont (v140, gb143) _ ⟨hHeld, (by (with_reducible repeat (first | apply Kd.V_alloc | apply Kd.V_drewN | apply Kd.V_drew)); exact HO141.out), (by (with_reducible repeat (first | apply Kd.V_alloc | apply Kd.V_drewN | apply Kd.V_drew)); exact Kd.V_mono HO_137001.out (fun _ hk => ⟨hk.1.1, ⟨hk.1.2, hk.2⟩⟩)), (by (with_reducible repeat (first | apply Kd.R_alloc | apply Kd.R_drewN | apply Kd.R_drew)); exact HO_5.out), (by (with_reducible repeat first | refine B1 ?_ _ | refine B2 ?_ | refine B3 ?_ _); exact BK136.out), (by (with_reducible repeat first | refine B1 ?_ _ | refine B2 ?_ | refine B3 ?_ _); exact BK143.out), GW143.out, GE143.out, NB136_143.out, NB143_136.out, (by repeat (first | (with_reducible first | exact HB.out | apply below_alloc | apply pw_below_drewN | apply below_drew1 | refine below_set ?_ GE136.out | refine below_set ?_ GE143.out) | exact HB.out))⟩)
         rintro ⟨v140, gb143⟩ w42 ⟨hS_, h0_, h1_, h2_, h3_, h4_, h5_, h6_, h7_, h8_, h9_⟩
         have n0_ : Aside0 (Kd.V k42 42 w42 w.heap.size (fun k_ => some k_ ≠ (u5 : Value).ownBlock ∧ k_ ≠ gb136 ∧ k_ ≠ gb143) v140 t139) := ⟨h0_⟩
         have n1_ : Aside0 (Kd.V k42 42 w42 w.heap.size (fun k_ => some k_ ≠ (u5 : Value).ownBlock ∧ k_ ≠ gb136 ∧ k_ ≠ gb143) (.slice Ao38 x137001_2.length co38) x137001_2) := ⟨h1_⟩
         have n2_ : Aside0 (Kd.R (Kd.int .i64) 3 w42 w.heap.size (fun _ => True) u5 x5_2) := ⟨h2_⟩
         have n3_ : Aside0 (w42.heap[gb136]? = some (.cells #[.int .i64 x137000_2, .slice Ao38 x137001_2.length co38] 24 (0, 0))) := ⟨h3_⟩
         have n4_ : Aside0 (w42.heap[gb143]? = some (.cells #[.int .i64 0, .slice none 0 0] 24 (0, 0))) := ⟨h4_⟩
         have n5_ : Aside0 (w.heap.size ≤ gb143) := ⟨h5_⟩
         have n6_ : Aside0 (w.heap.size ≤ gb143) := ⟨h6_⟩
         have n7_ : Aside0 (gb136 ≠ gb143) := ⟨h7_⟩
         have n8_ : Aside0 (gb143 ≠ gb136) := ⟨h8_⟩
         have n9_ : Aside0 (Below w.heap.size w w42) := ⟨h9_⟩
         clear HO_5
         clear HO_137001
         clear BK136
         clear HB
         clear h0_ h1_ h2_ h3_ h4_ h5_ h6_ h7_ h8_ h9_
         have HO141 := n0_
         have HO_137001 := n1_
         have HO_5 := n2_
         have BK136 := n3_
         have BK143 := n4_
         have GW143 := n5_
         have GE143 := n6_
         have NB136_143 := n7_
         have NB143_136 := n8_
         have HB := n9_
         clear n0_ n1_ n2_ n3_ n4_ n5_ n6_ n7_ n8_ n9_
         have hHeld : w42.cell? ⟨gb136, 0, none⟩ = some (.int .i64 x137000_2) ∧ w42.cell? ⟨gb136, 1, none⟩ = some (.slice Ao38 x137001_2.length co38) ∧ w42.cell? (ad137.add (x6_2).toNat) = some (.int .i64 (rd l0 x6_2)) := hS_
         obtain ⟨Ao44, co44, eo44⟩ := Kd.V_slice HO141.out
         (first | subst eo44 | (injection eo44 with f1_ f2_ f3_; have f4_ := f1_.symm; have f5_ := f3_.symm; clear f1_ f2_ f3_; subst f4_; subst f5_))
         refine norm_ (a' := ?_) ?_ ?_
         rotate_left
         ·
          simp only [putAll, Act.put, List.setIfInBounds_toArray, List.set_cons_zero, List.set_cons_succ]
          rfl
         refine one_ (i := 12) (N := none) #[true, true, true, true, true, true, true, true, true, true, true, true, true, false] rfl rfl (one_of HT_.out (by kernel_rfl)) (by decide) (fun K hK => ?_)
         have hs43 : w42.cell? ⟨gb143, 0, none⟩ = some (.int .i64 0) := (blk_cell BK143.out 0).trans rfl
         have hfs43 := blk_frozen BK143.out 0
         have hns43_0 := NB136_143.out
         have hms43_0 := NB143_136.out
         have hs45 : w42.cell? ⟨gb143, 1, none⟩ = some (.slice none 0 0) := (blk_cell BK143.out 1).trans rfl
         have hfs45 := blk_frozen BK143.out 1
         have hns45_0 := NB136_143.out
         have hms45_0 := NB143_136.out
         refine skip_ (w1 := ?_) (by rfl) rfl ?_ ?_
         rotate_left
         ·
          go_simp
          rfl
         refine hK.out _ _ ⟨((cell_far (p := ⟨gb143, _, none⟩) NB136_143.out _).trans (((cell_far (p := ⟨gb143, _, none⟩) NB136_143.out _).trans (hHeld.1)))), ((cell_far (p := ⟨gb143, _, none⟩) NB136_143.out _).trans (((cell_far (p := ⟨gb143, _, none⟩) NB136_143.out _).trans (hHeld.2.1)))), ((cell_far (p := ⟨gb143, _, none⟩) (by first | exact Nat.ne_of_lt (Nat.lt_of_lt_of_le (by have := World.block_lt_of_cell? _ _ hw137_0; first | rwa [add_block] at this | exact this) GW143.out) | (rw [add_block]; exact Nat.ne_of_lt (Nat.lt_of_lt_of_le (by have := World.block_lt_of_cell? _ _ hw137_0; first | rwa [add_block] at this | exact this) GW143.out)) | (show (Addr.add _ _).block ≠ _; rw [add_block]; exact Nat.ne_of_lt (Nat.lt_of_lt_of_le (by have := World.block_lt_of_cell? _ _ hw137_0; first | rwa [add_block] at this | exact this) GW143.out)) | (dsimp only; exact Nat.ne_of_lt (Nat.lt_of_lt_of_le (by have := World.block_lt_of_cell? _ _ hw137_0; first | rwa [add_block] at this | exact this) GW143.out))) _).trans (((cell_far (p := ⟨gb143, _, none⟩) (by first | exact Nat.ne_of_lt (Nat.lt_of_lt_of_le (by have := World.block_lt_of_cell? _ _ hw137_0; first | rwa [add_block] at this | exact this) GW143.out) | (rw [add_block]; exact Nat.ne_of_lt (Nat.lt_of_lt_of_le (by have := World.block_lt_of_cell? _ _ hw137_0; first | rwa [add_block] at this | exact this) GW143.out)) | (show (Addr.add _ _).block ≠ _; rw [add_block]; exact Nat.ne_of_lt (Nat.lt_of_lt_of_le (by have := World.block_lt_of_cell? _ _ hw137_0; first | rwa [add_block] at this | exact this) GW143.out)) | (dsimp only; exact Nat.ne_of_lt (Nat.lt_of_lt_of_le (by have := World.block_lt_of_cell? _ _ hw137_0; first | rwa [add_block] at this | exact this) GW143.out))) _).trans (hHeld.2.2))))⟩ (fun hHeld => ?_)
         clear hK K
         refine pure_ (i := 13) (N := some 8) (v := ?_) (a' := ?_) #[true, true, true, true, true, true, true, true, true, true, true, true, true, true] rfl rfl (any_of HT_.out (by kernel_rfl)) (fun _ _ _ h => h) (Or.inl ⟨by rfl, ?_⟩) ?_ ?_
         rotate_left
         ·
          intro w'
          go_simp
          with_reducible rfl
         rotate_left
         ·
          simp only [Act.put, B4, B5, B6, i64_w, i32_w]
          rfl
         refine done_ (done_of HT_.out (by kernel_rfl)) ?_
         try go_wp2
         go_roundg k2
         case measure => have := HJ2.out; have := HK2.out; omega
         case rel => exact ⟨(x5_2), (wrap64 (x6_2 + 1)), (x137000_2), (x137001_2), (.slice Ao38 x137001_2.length co38), (by first | rfl | (simp; done) | (simp [*]; done)), H', ⟨by have := HJ2.out; have := HK2.out; omega⟩, ⟨by (with_reducible repeat (first | apply Kd.R_alloc | apply Kd.R_drewN | apply Kd.R_drew)); exact Kd.R_mono (Kd.R_far (p := ⟨gb143, 1, none⟩) (Kd.R_far (p := ⟨gb143, 0, none⟩) (Kd.R_types HO_5.out BK143.out (by decide)) (fun _ hk => hk.2) (.int .i64 t138)) (fun _ hk => hk.2) (.slice Ao44 t139.length co44)) (fun _ hk => trivial)⟩, ⟨by (with_reducible repeat (first | apply Kd.V_alloc | apply Kd.V_drewN | apply Kd.V_drew)); exact Kd.V_mono (Kd.V_far (p := ⟨gb143, 1, none⟩) (Kd.V_far (p := ⟨gb143, 0, none⟩) (Kd.V_mono HO_137001.out (fun k_ hk => (⟨hk, hk.2.2⟩ : _ ∧ k_ ≠ gb143))) (fun _ hk => hk.2) (.int .i64 t138)) (fun _ hk => hk.2) (.slice Ao44 t139.length co44)) (fun _ hk => ⟨hk.1.1, hk.1.2.1⟩)⟩, ⟨by (with_reducible repeat first | refine B1 ?_ _ | refine B2 ?_ | refine B3 ?_ _); refine blk_far ?_ NB136_143.out _; (with_reducible repeat first | refine B1 ?_ _ | refine B2 ?_ | refine B3 ?_ _); refine blk_far ?_ NB136_143.out _; (with_reducible repeat first | refine B1 ?_ _ | refine B2 ?_ | refine B3 ?_ _); exact BK136.out⟩, ⟨by repeat (first | (with_reducible first | exact HB.out | apply below_alloc | apply pw_below_drewN | apply below_drew1 | refine below_set ?_ GE136.out | refine below_set ?_ GE143.out) | exact HB.out)⟩⟩
       ·
        rw [if_neg c10] at H
        exact absurd H (by simp)
      ·
       rw [if_neg c9] at H
       have c9b0 : decide (x6_2 < (l0.length : Int)) = false := decide_eq_false c9
       clear c9
       have H' := Aside0.mk H
       clear H
       go_wp2
       go_loopg [10] k2 (fun kq v10 w' => ∃ (x10_3 : Int), v10 = .int .i64 x10_3 ∧ Aside0 (colloquylaw17_WindowRuns.l2 kq x5_2 x10_3 x137000_2 x137001_2 = some r) ∧ Aside0 (kq ≤ k2) ∧ Aside0 (Kd.R (Kd.int .i64) 3 w' w.heap.size (fun _ => True) u5 x5_2) ∧ Aside0 (Kd.V k42 42 w' w.heap.size (fun k_ => some k_ ≠ (u5 : Value).ownBlock ∧ k_ ≠ gb136) u137001 x137001_2) ∧ Aside0 (w'.heap[gb136]? = some (.cells #[.int .i64 x137000_2, u137001] 24 (0, 0))) ∧ Aside0 (Below w.heap.size w w'))
       case atStart => exact ⟨(0), (by first | rfl | (simp; done) | (simp [*]; done)), H', ⟨Nat.le_refl _⟩, ⟨by (with_reducible repeat (first | apply Kd.R_alloc | apply Kd.R_drewN | apply Kd.R_drew)); exact HO_5.out⟩, ⟨by (with_reducible repeat (first | apply Kd.V_alloc | apply Kd.V_drewN | apply Kd.V_drew)); exact HO_137001.out⟩, ⟨by (with_reducible repeat first | refine B1 ?_ _ | refine B2 ?_ | refine B3 ?_ _); exact BK136.out⟩, ⟨by repeat (first | (with_reducible first | exact HB.out | apply below_alloc | apply pw_below_drewN | apply below_drew1 | refine below_set ?_ GE136.out) | exact HB.out)⟩⟩
       case round =>
        clear H'
        try clear c1
        try clear p1
        try clear q1
        try clear hx1
        try clear c2
        try clear p2
        try clear c3
        try clear p6
        try clear c9
        try clear c9b0
        try clear c10
        try clear c12
        try clear c12b0
        try clear c12b1
        try clear p13
        try clear q13
        try clear hx13
        try clear p14
        try clear q14
        try clear hx14
        try clear c21
        try clear c21b0
        try clear c22
        try clear c23
        try clear c24
        try clear c25
        try clear c25b0
        try clear c25b1
        try clear c30
        try clear c30b0
        try clear c31
        try clear c31b0
        try clear c32
        try clear c35
        try clear hcz36_0
        try clear hcz36_1
        try clear hcz37_0
        try clear hcz37_1
        try clear hfz36_0
        try clear hfz36_1
        try clear hfz37_0
        try clear hfz37_1
        try clear hx137_0
        try clear hx144_0
        try clear hx145_0
        try clear hx146_0
        try clear p137
        try clear p144
        try clear p145
        try clear p146
        try clear q137
        try clear q144
        try clear q145
        try clear q146
        obtain ⟨x10_3, rfl, HA, HK3, HO_5, HO_137001, BK136, HB⟩ := hrel
        cases gk with
        | zero => exact absurd HA.out (by simp [colloquylaw17_WindowRuns.l2])
        | succ k3 =>
         have H := HA.out
         clear HA
         simp only [colloquylaw17_WindowRuns.l2] at H
         by_cases c46 : x10_3 < (x5_2.length : Int)
         ·
          rw [if_pos c46] at H
          have c46b0 : decide (x10_3 < (x5_2.length : Int)) = true := decide_eq_true c46
          clear c46
          have H' := Aside0.mk H
          clear H
          obtain ⟨Ao47, co47, eo47⟩ := Kd.R_slice HO_5.out
          subst eo47
          go_wp2
          go_loopg [11, 12] k3 (fun kq v11 v12 w' => ∃ (x11_4 : Int) (x12_4 : Int), v11 = .int .i64 x11_4 ∧ v12 = .int .i64 x12_4 ∧ Aside0 (colloquylaw17_WindowRuns.l3 kq x5_2 x10_3 x11_4 x12_4 x137000_2 x137001_2 = some r) ∧ Aside0 (kq ≤ k3) ∧ Aside0 (Kd.R (Kd.int .i64) 3 w' w.heap.size (fun _ => True) (.slice Ao47 x5_2.length co47) x5_2) ∧ Aside0 (Kd.V k42 42 w' w.heap.size (fun k_ => some k_ ≠ ((.slice Ao47 x5_2.length co47) : Value).ownBlock ∧ k_ ≠ gb136) u137001 x137001_2) ∧ Aside0 (w'.heap[gb136]? = some (.cells #[.int .i64 x137000_2, u137001] 24 (0, 0))) ∧ Aside0 (Below w.heap.size w w'))
          case atStart => exact ⟨(0), (0), (by first | rfl | (simp; done) | (simp [*]; done)), (by first | rfl | (simp; done) | (simp [*]; done)), H', ⟨Nat.le_refl _⟩, ⟨by (with_reducible repeat (first | apply Kd.R_alloc | apply Kd.R_drewN | apply Kd.R_drew)); exact HO_5.out⟩, ⟨by (with_reducible repeat (first | apply Kd.V_alloc | apply Kd.V_drewN | apply Kd.V_drew)); exact HO_137001.out⟩, ⟨by (with_reducible repeat first | refine B1 ?_ _ | refine B2 ?_ | refine B3 ?_ _); exact BK136.out⟩, ⟨by repeat (first | (with_reducible first | exact HB.out | apply below_alloc | apply pw_below_drewN | apply below_drew1 | refine below_set ?_ GE136.out) | exact HB.out)⟩⟩
          case round =>
           clear H'
           try clear c1
           try clear p1
           try clear q1
           try clear hx1
           try clear c2
           try clear p2
           try clear c3
           try clear c4
           try clear p6
           try clear c9
           try clear c9b0
           try clear c10
           try clear c12
           try clear c12b0
           try clear c12b1
           try clear p13
           try clear q13
           try clear hx13
           try clear p14
           try clear q14
           try clear hx14
           try clear c21
           try clear c21b0
           try clear c22
           try clear c23
           try clear c24
           try clear c25
           try clear c25b0
           try clear c25b1
           try clear c30
           try clear c30b0
           try clear c31
           try clear c31b0
           try clear c32
           try clear c35
           try clear c46
           try clear c46b0
           try clear hcz36_0
           try clear hcz36_1
           try clear hcz37_0
           try clear hcz37_1
           try clear hfz36_0
           try clear hfz36_1
           try clear hfz37_0
           try clear hfz37_1
           try clear hx137_0
           try clear hx144_0
           try clear hx145_0
           try clear hx146_0
           try clear p1
           try clear p13
           try clear p137
           try clear p14
           try clear p144
           try clear p145
           try clear p146
           try clear p2
           try clear p6
           try clear q1
           try clear q13
           try clear q137
           try clear q14
           try clear q144
           try clear q145
           try clear q146
           obtain ⟨x11_4, x12_4, rfl, rfl, HA, HK4, HO_5, HO_137001, BK136, HB⟩ := hrel
           cases gk with
           | zero => exact absurd HA.out (by simp [colloquylaw17_WindowRuns.l3])
           | succ k4 =>
            have H := HA.out
            clear HA
            simp only [colloquylaw17_WindowRuns.l3] at H
            by_cases c48 : x12_4 < (x5_2.length : Int)
            ·
             rw [if_pos c48] at H
             have c48b0 : decide (x12_4 < (x5_2.length : Int)) = true := decide_eq_true c48
             clear c48
             by_cases c49 : 0 ≤ x12_4
             ·
              rw [if_pos c49] at H
              have c49b0 : decide (0 ≤ x12_4) = true := decide_eq_true c49
              clear c49
              by_cases c50 : 0 ≤ x10_3
              ·
               rw [if_pos c50] at H
               have c50b0 : decide (0 ≤ x10_3) = true := decide_eq_true c50
               clear c50
               by_cases c51 : x10_3 < (x5_2.length : Int)
               ·
                rw [if_pos c51] at H
                have c51b0 : decide (x10_3 < (x5_2.length : Int)) = true := decide_eq_true c51
                clear c51
                by_cases c52 : (rd x5_2 x12_4) > (rd x5_2 x10_3)
                ·
                 rw [if_pos c52] at H
                 have c52b0 : decide ((rd x5_2 x10_3) < (rd x5_2 x12_4)) = true := decide_eq_true c52
                 clear c52
                 have H' := Aside0.mk H
                 clear H
                 try go_wp2
                 have n0_ := Aside0.mk (Kd.R_drew HO_5.out)
                 have n1_ := Aside0.mk (Kd.V_drew HO_137001.out)
                 have n2_ := Aside0.mk (blk_drew BK136.out)
                 have n3_ := Aside0.mk (below_drew1 HB.out)
                 clear HO_5
                 clear HO_137001
                 clear BK136
                 clear HB
                 have HO_5 := n0_
                 have HO_137001 := n1_
                 have BK136 := n2_
                 have HB := n3_
                 clear n0_ n1_ n2_ n3_
                 have p150 : 0 ≤ (x12_4 : Int) := of_decide_eq_true (by first | (with_reducible assumption) | assumption)
                 have q150 : x12_4 < (x5_2.length : Int) := of_decide_eq_true (by first | (with_reducible assumption) | assumption)
                 obtain ⟨ad150, e150, hx150_0⟩ := Kd.at_int (Kd.R_reads' HO_5.out).2.2 x12_4 p150 q150
                 cases e150
                 replace p150 := eq_true p150
                 replace q150 := eq_true q150
                 have p151 : 0 ≤ (x10_3 : Int) := of_decide_eq_true (by first | (with_reducible assumption) | assumption)
                 have q151 : x10_3 < (x5_2.length : Int) := of_decide_eq_true (by first | (with_reducible assumption) | assumption)
                 obtain ⟨ad151, e151, hx151_0⟩ := Kd.at_int (Kd.R_reads' HO_5.out).2.2 x10_3 p151 q151
                 obtain rfl : ad150 = ad151 := (by injection e151)
                 replace p151 := eq_true p151
                 replace q151 := eq_true q151
                 refine start_ (n := 9) (S := fun w' => w'.cell? (ad150.add (x12_4).toNat) = some (.int .i64 (rd x5_2 x12_4)) ∧ w'.cell? (ad150.add (x10_3).toNat) = some (.int .i64 (rd x5_2 x10_3))) (ds := []) #[false, false, false, false, false, false, false, false, false] (by kernel_rfl) rfl rfl ⟨hx150_0, hx151_0⟩ (fun hHeld => ?_); refine with_tabW colloquylaw17_WindowRuns.tab25 colloquylaw17_WindowRuns.bits25 (fun HT_ HW_ => ?_)
                 generalize wr.drew = w53 at HO_5 HO_137001 BK136 HB hx150_0 hx151_0 hHeld ⊢
                 refine pure_ (i := 0) (N := some 80) (v := ?_) (a' := ?_) #[true, false, false, false, false, false, false, false, false] rfl rfl (any_of HT_.out (by kernel_rfl)) (fun _ _ _ h => h) (Or.inl ⟨by rfl, ?_⟩) ?_ ?_
                 rotate_left
                 ·
                  intro w'
                  go_simp
                  with_reducible rfl
                 rotate_left
                 ·
                  simp only [Act.put, B4, B5, B6, i64_w, i32_w]
                  rfl
                 refine pure_ (i := 1) (N := some 81) (v := ?_) (a' := ?_) #[true, true, false, false, false, false, false, false, false] rfl rfl (any_of HT_.out (by kernel_rfl)) (fun _ _ _ h => h) (Or.inl ⟨by rfl, ?_⟩) ?_ ?_
                 rotate_left
                 ·
                  intro w'
                  go_simp
                  with_reducible rfl
                 rotate_left
                 ·
                  simp only [Act.put, B4, B5, B6, i64_w, i32_w]
                  rfl
                 refine pure_ (i := 2) (N := some 82) (v := ?_) (a' := ?_) #[true, true, true, false, false, false, false, false, false] rfl rfl (any_of HT_.out (by kernel_rfl)) (fun _ _ _ h => h) (Or.inl ⟨by rfl, ?_⟩) ?_ ?_
                 rotate_left
                 ·
                  intro w'
                  go_simp
                  with_reducible rfl
                 rotate_left
                 ·
                  simp only [Act.put, B4, B5, B6, i64_w, i32_w]
                  rfl
                 refine pure_ (i := 4) (N := some 84) (v := ?_) (a' := ?_) #[true, true, true, false, true, false, false, false, false] rfl rfl (any_of HT_.out (by kernel_rfl)) (fun _ _ _ h => h) (Or.inl ⟨by rfl, ?_⟩) ?_ ?_
                 rotate_left
                 ·
                  intro w'
                  go_simp
                  with_reducible rfl
                 rotate_left
                 ·
                  simp only [Act.put, B4, B5, B6, i64_w, i32_w]
                  rfl
                 refine pure_ (i := 5) (N := some 85) (v := ?_) (a' := ?_) #[true, true, true, false, true, true, false, false, false] rfl rfl (any_of HT_.out (by kernel_rfl)) (fun _ _ _ h => h) (Or.inl ⟨by rfl, ?_⟩) ?_ ?_
                 rotate_left
                 ·
                  intro w'
                  go_simp
                  with_reducible rfl
                 rotate_left
                 ·
                  simp only [Act.put, B4, B5, B6, i64_w, i32_w]
                  rfl
                 refine pure_ (i := 6) (N := some 86) (v := ?_) (a' := ?_) #[true, true, true, false, true, true, true, false, false] rfl rfl (any_of HT_.out (by kernel_rfl)) (fun _ _ _ h => h) (Or.inl ⟨by rfl, ?_⟩) ?_ ?_
                 rotate_left
                 ·
                  intro w'
                  go_simp
                  with_reducible rfl
                 rotate_left
                 ·
                  simp only [Act.put, B4, B5, B6, i64_w, i32_w]
                  rfl
                 refine take_ (i := 3) (N := some 83) (v := ?_) (a' := ?_) #[true, true, true, true, true, true, true, false, false] rfl rfl (take_ofW HT_.out HW_.out (by kernel_rfl)) (fun _ _ _ h => h) (Or.inl ⟨by rfl, ?_⟩) hHeld ?_ ?_
                 rotate_left
                 ·
                  rintro w' ⟨s0, s1⟩
                  go_simp
                  with_reducible rfl
                 rotate_left
                 ·
                  simp only [Act.put, B4, B5, B6, i64_w, i32_w]
                  rfl
                 refine take_ (i := 7) (N := some 87) (v := ?_) (a' := ?_) #[true, true, true, true, true, true, true, true, false] rfl rfl (take_ofW HT_.out HW_.out (by kernel_rfl)) (fun _ _ _ h => h) (Or.inl ⟨by rfl, ?_⟩) hHeld ?_ ?_
                 rotate_left
                 ·
                  rintro w' ⟨s0, s1⟩
                  go_simp
                  with_reducible rfl
                 rotate_left
                 ·
                  simp only [Act.put, B4, B5, B6, i64_w, i32_w]
                  rfl
                 refine pure_ (i := 8) (N := some 88) (v := ?_) (a' := ?_) #[true, true, true, true, true, true, true, true, true] rfl rfl (any_of HT_.out (by kernel_rfl)) (fun _ _ _ h => h) (Or.inl ⟨by rfl, ?_⟩) ?_ ?_
                 rotate_left
                 ·
                  intro w'
                  go_simp
                  with_reducible rfl
                 rotate_left
                 ·
                  simp only [Act.put, B4, B5, B6, i64_w, i32_w]
                  rfl
                 refine done_ (done_of HT_.out (by kernel_rfl)) ?_
                 try go_wp2
                 go_roundg k4
                 case measure => have := HJ2.out; have := HK2.out; have := HK3.out; have := HK4.out; omega
                 case rel => exact ⟨(wrap64 (x11_4 + 1)), (wrap64 (x12_4 + 1)), (by first | rfl | (simp; done) | (simp [*]; done)), (by first | rfl | (simp; done) | (simp [*]; done)), H', ⟨by have := HJ2.out; have := HK2.out; have := HK3.out; have := HK4.out; omega⟩, ⟨by (with_reducible repeat (first | apply Kd.R_alloc | apply Kd.R_drewN | apply Kd.R_drew)); exact HO_5.out⟩, ⟨by (with_reducible repeat (first | apply Kd.V_alloc | apply Kd.V_drewN | apply Kd.V_drew)); exact HO_137001.out⟩, ⟨by (with_reducible repeat first | refine B1 ?_ _ | refine B2 ?_ | refine B3 ?_ _); exact BK136.out⟩, ⟨by repeat (first | (with_reducible first | exact HB.out | apply below_alloc | apply pw_below_drewN | apply below_drew1 | refine below_set ?_ GE136.out) | exact HB.out)⟩⟩
                ·
                 rw [if_neg c52] at H
                 have c52b0 : decide ((rd x5_2 x10_3) < (rd x5_2 x12_4)) = false := decide_eq_false c52
                 clear c52
                 have H' := Aside0.mk H
                 clear H
                 try go_wp2
                 have n0_ := Aside0.mk (Kd.R_drew HO_5.out)
                 have n1_ := Aside0.mk (Kd.V_drew HO_137001.out)
                 have n2_ := Aside0.mk (blk_drew BK136.out)
                 have n3_ := Aside0.mk (below_drew1 HB.out)
                 clear HO_5
                 clear HO_137001
                 clear BK136
                 clear HB
                 have HO_5 := n0_
                 have HO_137001 := n1_
                 have BK136 := n2_
                 have HB := n3_
                 clear n0_ n1_ n2_ n3_
                 have p150 : 0 ≤ (x12_4 : Int) := of_decide_eq_true (by first | (with_reducible assumption) | assumption)
                 have q150 : x12_4 < (x5_2.length : Int) := of_decide_eq_true (by first | (with_reducible assumption) | assumption)
                 obtain ⟨ad150, e150, hx150_0⟩ := Kd.at_int (Kd.R_reads' HO_5.out).2.2 x12_4 p150 q150
                 cases e150
                 replace p150 := eq_true p150
                 replace q150 := eq_true q150
                 have p151 : 0 ≤ (x10_3 : Int) := of_decide_eq_true (by first | (with_reducible assumption) | assumption)
                 have q151 : x10_3 < (x5_2.length : Int) := of_decide_eq_true (by first | (with_reducible assumption) | assumption)
                 obtain ⟨ad151, e151, hx151_0⟩ := Kd.at_int (Kd.R_reads' HO_5.out).2.2 x10_3 p151 q151
                 obtain rfl : ad150 = ad151 := (by injection e151)
                 replace p151 := eq_true p151
                 replace q151 := eq_true q151
                 refine start_ (n := 9) (S := fun w' => w'.cell? (ad150.add (x12_4).toNat) = some (.int .i64 (rd x5_2 x12_4)) ∧ w'.cell? (ad150.add (x10_3).toNat) = some (.int .i64 (rd x5_2 x10_3))) (ds := []) #[false, false, false, false, false, false, false, false, false] (by kernel_rfl) rfl rfl ⟨hx150_0, hx151_0⟩ (fun hHeld => ?_); refine with_tabW colloquylaw17_WindowRuns.tab25 colloquylaw17_WindowRuns.bits25 (fun HT_ HW_ => ?_)
                 generalize wr.drew = w54 at HO_5 HO_137001 BK136 HB hx150_0 hx151_0 hHeld ⊢
                 refine pure_ (i := 0) (N := some 80) (v := ?_) (a' := ?_) #[true, false, false, false, false, false, false, false, false] rfl rfl (any_of HT_.out (by kernel_rfl)) (fun _ _ _ h => h) (Or.inl ⟨by rfl, ?_⟩) ?_ ?_
                 rotate_left
                 ·
                  intro w'
                  go_simp
                  with_reducible rfl
                 rotate_left
                 ·
                  simp only [Act.put, B4, B5, B6, i64_w, i32_w]
                  rfl
                 refine pure_ (i := 1) (N := some 81) (v := ?_) (a' := ?_) #[true, true, false, false, false, false, false, false, false] rfl rfl (any_of HT_.out (by kernel_rfl)) (fun _ _ _ h => h) (Or.inl ⟨by rfl, ?_⟩) ?_ ?_
                 rotate_left
                 ·
                  intro w'
                  go_simp
                  with_reducible rfl
                 rotate_left
                 ·
                  simp only [Act.put, B4, B5, B6, i64_w, i32_w]
                  rfl
                 refine pure_ (i := 2) (N := some 82) (v := ?_) (a' := ?_) #[true, true, true, false, false, false, false, false, false] rfl rfl (any_of HT_.out (by kernel_rfl)) (fun _ _ _ h => h) (Or.inl ⟨by rfl, ?_⟩) ?_ ?_
                 rotate_left
                 ·
                  intro w'
                  go_simp
                  with_reducible rfl
                 rotate_left
                 ·
                  simp only [Act.put, B4, B5, B6, i64_w, i32_w]
                  rfl
                 refine pure_ (i := 4) (N := some 84) (v := ?_) (a' := ?_) #[true, true, true, false, true, false, false, false, false] rfl rfl (any_of HT_.out (by kernel_rfl)) (fun _ _ _ h => h) (Or.inl ⟨by rfl, ?_⟩) ?_ ?_
                 rotate_left
                 ·
                  intro w'
                  go_simp
                  with_reducible rfl
                 rotate_left
                 ·
                  simp only [Act.put, B4, B5, B6, i64_w, i32_w]
                  rfl
                 refine pure_ (i := 5) (N := some 85) (v := ?_) (a' := ?_) #[true, true, true, false, true, true, false, false, false] rfl rfl (any_of HT_.out (by kernel_rfl)) (fun _ _ _ h => h) (Or.inl ⟨by rfl, ?_⟩) ?_ ?_
                 rotate_left
                 ·
                  intro w'
                  go_simp
                  with_reducible rfl
                 rotate_left
                 ·
                  simp only [Act.put, B4, B5, B6, i64_w, i32_w]
                  rfl
                 refine pure_ (i := 6) (N := some 86) (v := ?_) (a' := ?_) #[true, true, true, false, true, true, true, false, false] rfl rfl (any_of HT_.out (by kernel_rfl)) (fun _ _ _ h => h) (Or.inl ⟨by rfl, ?_⟩) ?_ ?_
                 rotate_left
                 ·
                  intro w'
                  go_simp
                  with_reducible rfl
                 rotate_left
                 ·
                  simp only [Act.put, B4, B5, B6, i64_w, i32_w]
                  rfl
                 refine take_ (i := 3) (N := some 83) (v := ?_) (a' := ?_) #[true, true, true, true, true, true, true, false, false] rfl rfl (take_ofW HT_.out HW_.out (by kernel_rfl)) (fun _ _ _ h => h) (Or.inl ⟨by rfl, ?_⟩) hHeld ?_ ?_
                 rotate_left
                 ·
                  rintro w' ⟨s0, s1⟩
                  go_simp
                  with_reducible rfl
                 rotate_left
                 ·
                  simp only [Act.put, B4, B5, B6, i64_w, i32_w]
                  rfl
                 refine take_ (i := 7) (N := some 87) (v := ?_) (a' := ?_) #[true, true, true, true, true, true, true, true, false] rfl rfl (take_ofW HT_.out HW_.out (by kernel_rfl)) (fun _ _ _ h => h) (Or.inl ⟨by rfl, ?_⟩) hHeld ?_ ?_
                 rotate_left
                 ·
                  rintro w' ⟨s0, s1⟩
                  go_simp
                  with_reducible rfl
                 rotate_left
                 ·
                  simp only [Act.put, B4, B5, B6, i64_w, i32_w]
                  rfl
                 refine pure_ (i := 8) (N := some 88) (v := ?_) (a' := ?_) #[true, true, true, true, true, true, true, true, true] rfl rfl (any_of HT_.out (by kernel_rfl)) (fun _ _ _ h => h) (Or.inl ⟨by rfl, ?_⟩) ?_ ?_
                 rotate_left
                 ·
                  intro w'
                  go_simp
                  with_reducible rfl
                 rotate_left
                 ·
                  simp only [Act.put, B4, B5, B6, i64_w, i32_w]
                  rfl
                 refine done_ (done_of HT_.out (by kernel_rfl)) ?_
                 try go_wp2
                 go_roundg k4
                 case measure => have := HJ2.out; have := HK2.out; have := HK3.out; have := HK4.out; omega
                 case rel => exact ⟨(x11_4), (wrap64 (x12_4 + 1)), (by first | rfl | (simp; done) | (simp [*]; done)), (by first | rfl | (simp; done) | (simp [*]; done)), H', ⟨by have := HJ2.out; have := HK2.out; have := HK3.out; have := HK4.out; omega⟩, ⟨by (with_reducible repeat (first | apply Kd.R_alloc | apply Kd.R_drewN | apply Kd.R_drew)); exact HO_5.out⟩, ⟨by (with_reducible repeat (first | apply Kd.V_alloc | apply Kd.V_drewN | apply Kd.V_drew)); exact HO_137001.out⟩, ⟨by (with_reducible repeat first | refine B1 ?_ _ | refine B2 ?_ | refine B3 ?_ _); exact BK136.out⟩, ⟨by repeat (first | (with_reducible first | exact HB.out | apply below_alloc | apply pw_below_drewN | apply below_drew1 | refine below_set ?_ GE136.out) | exact HB.out)⟩⟩
               ·
                rw [if_neg c51] at H
                exact absurd H (by simp)
              ·
               rw [if_neg c50] at H
               exact absurd H (by simp)
             ·
              rw [if_neg c49] at H
              exact absurd H (by simp)
            ·
             rw [if_neg c48] at H
             have c48b0 : decide (x12_4 < (x5_2.length : Int)) = false := decide_eq_false c48
             clear c48
             by_cases c55 : 0 ≤ x10_3
             ·
              rw [if_pos c55] at H
              have c55b0 : decide (0 ≤ x10_3) = true := decide_eq_true c55
              clear c55
              by_cases c56 : x10_3 < (x5_2.length : Int)
              ·
               rw [if_pos c56] at H
               have c56b0 : decide (x10_3 < (x5_2.length : Int)) = true := decide_eq_true c56
               clear c56
               replace H := Option.bind_eq_some_iff.mp H
               obtain ⟨⟨t153, t154, t155, t156, t157⟩, A570, H⟩ := H
               replace H : (if x11_4 < 8 then (if t156 = true then (if t157 = 0 then (colloquylaw17_WindowRuns.l2 k4 x5_2 (wrap64 (x10_3 + 1)) x137000_2 x137001_2) else (some false)) else (some false)) else (colloquylaw17_WindowRuns.l2 k4 x5_2 (wrap64 (x10_3 + 1)) x137000_2 x137001_2)) = some r := H
               have A57 := Aside0.mk A570
               clear A570
               by_cases c58 : x11_4 < 8
               ·
                rw [if_pos c58] at H
                have c58b0 : decide (x11_4 < 8) = true := decide_eq_true c58
                clear c58
                by_cases c59 : t156 = true
                ·
                 subst c59
                 have H1 : (if t157 = 0 then (colloquylaw17_WindowRuns.l2 k4 x5_2 (wrap64 (x10_3 + 1)) x137000_2 x137001_2) else (some false)) = some r := by rw [if_pos rfl] at H; exact H
                 clear H
                 have H := H1
                 clear H1
                 by_cases c60 : t157 = 0
                 ·
                  rw [if_pos c60] at H
                  have c60b0 : (t157 == 0) = true := beq_iff_eq.mpr c60
                  have c60b1 : (t157 != 0) = false := bne_eq_false_iff_eq.mpr c60
                  clear c60
                  have H' := Aside0.mk H
                  clear H
                  obtain ⟨Ao61, co61, eo61⟩ := Kd.V_slice HO_137001.out
                  subst eo61
                  try go_wp2
                  have n0_ := Aside0.mk (Kd.R_drew HO_5.out)
                  have n1_ := Aside0.mk (Kd.V_drew HO_137001.out)
                  have n2_ := Aside0.mk (blk_drew BK136.out)
                  have n3_ := Aside0.mk (below_drew1 HB.out)
                  clear HO_5
                  clear HO_137001
                  clear BK136
                  clear HB
                  have HO_5 := n0_
                  have HO_137001 := n1_
                  have BK136 := n2_
                  have HB := n3_
                  clear n0_ n1_ n2_ n3_
                  have p152 : 0 ≤ (x10_3 : Int) := of_decide_eq_true (by first | (with_reducible assumption) | assumption)
                  have q152 : x10_3 < (x5_2.length : Int) := of_decide_eq_true (by first | (with_reducible assumption) | assumption)
                  obtain ⟨ad152, e152, hx152_0⟩ := Kd.at_int (Kd.R_reads' HO_5.out).2.2 x10_3 p152 q152
                  cases e152
                  replace p152 := eq_true p152
                  replace q152 := eq_true q152
                  refine start_ (n := 14) (S := fun w' => w'.cell? ⟨gb136, 0, none⟩ = some (.int .i64 x137000_2) ∧ w'.cell? ⟨gb136, 1, none⟩ = some (.slice Ao61 x137001_2.length co61) ∧ w'.cell? (ad152.add (x10_3).toNat) = some (.int .i64 (rd x5_2 x10_3))) (ds := []) #[false, false, false, false, false, false, false, false, false, false, false, false, false, false] (by kernel_rfl) rfl rfl ⟨(blk_cell BK136.out 0).trans rfl, (blk_cell BK136.out 1).trans rfl, hx152_0⟩ (fun hHeld => ?_); refine with_tabW colloquylaw17_WindowRuns.tab27 colloquylaw17_WindowRuns.bits27 (fun HT_ HW_ => ?_)
                  generalize wr.drew = w62 at HO_5 HO_137001 BK136 HB hx152_0 hHeld ⊢
                  refine pure_ (i := 1) (N := some 93) (v := ?_) (a' := ?_) #[false, true, false, false, false, false, false, false, false, false, false, false, false, false] rfl rfl (any_of HT_.out (by kernel_rfl)) (fun _ _ _ h => h) (Or.inl ⟨by rfl, ?_⟩) ?_ ?_
                  rotate_left
                  ·
                   intro w'
                   go_simp
                   with_reducible rfl
                  rotate_left
                  ·
                   simp only [Act.put, B4, B5, B6, i64_w, i32_w]
                   rfl
                  refine pure_ (i := 2) (N := some 94) (v := ?_) (a' := ?_) #[false, true, true, false, false, false, false, false, false, false, false, false, false, false] rfl rfl (any_of HT_.out (by kernel_rfl)) (fun _ _ _ h => h) (Or.inl ⟨by rfl, ?_⟩) ?_ ?_
                  rotate_left
                  ·
                   intro w'
                   go_simp
                   with_reducible rfl
                  rotate_left
                  ·
                   simp only [Act.put, B4, B5, B6, i64_w, i32_w]
                   rfl
                  refine pure_ (i := 3) (N := some 95) (v := ?_) (a' := ?_) #[false, true, true, true, false, false, false, false, false, false, false, false, false, false] rfl rfl (any_of HT_.out (by kernel_rfl)) (fun _ _ _ h => h) (Or.inl ⟨by rfl, ?_⟩) ?_ ?_
                  rotate_left
                  ·
                   intro w'
                   go_simp
                   with_reducible rfl
                  rotate_left
                  ·
                   simp only [Act.put, B4, B5, B6, i64_w, i32_w]
                   rfl
                  refine take_ (i := 0) (N := some 92) (v := ?_) (a' := ?_) #[true, true, true, true, false, false, false, false, false, false, false, false, false, false] rfl rfl (take_ofW HT_.out HW_.out (by kernel_rfl)) (fun _ _ _ h => h) (Or.inl ⟨by rfl, ?_⟩) hHeld ?_ ?_
                  rotate_left
                  ·
                   rintro w' ⟨s0, s1, s2⟩
                   go_simp
                   with_reducible rfl
                  rotate_left
                  ·
                   simp only [Act.put, B4, B5, B6, i64_w, i32_w]
                   rfl
                  refine take_ (i := 4) (N := some 96) (v := ?_) (a' := ?_) #[true, true, true, true, true, false, false, false, false, false, false, false, false, false] rfl rfl (take_ofW HT_.out HW_.out (by kernel_rfl)) (fun _ _ _ h => h) (Or.inl ⟨by rfl, ?_⟩) hHeld ?_ ?_
                  rotate_left
                  ·
                   rintro w' ⟨s0, s1, s2⟩
                   go_simp
                   with_reducible rfl
                  rotate_left
                  ·
                   simp only [Act.put, B4, B5, B6, i64_w, i32_w]
                   rfl
                  refine join_ (σ := Nat) 3 #[true, true, true, true, true, true, true, true, true, true, true, false, false, false] (fun s_ => [(97, .tuple #[.agg #[.int .i64 t153, .int .i64 t154, .string t155], .bool true, .int .i64 t157]), (13, .pointer (some ⟨s_, 0, none⟩)), (91, .tuple #[.agg #[.int .i64 t153, .int .i64 t154, .string t155], .bool true, .int .i64 t157]), (98, .agg #[.int .i64 t153, .int .i64 t154, .string t155]), (99, .bool true), (100, .int .i64 t157)]) (fun s_ w' => (w'.cell? ⟨gb136, 0, none⟩ = some (.int .i64 x137000_2) ∧ w'.cell? ⟨gb136, 1, none⟩ = some (.slice Ao61 x137001_2.length co61) ∧ w'.cell? (ad152.add (x10_3).toNat) = some (.int .i64 (rd x5_2 x10_3))) ∧ (Kd.V k42 42 w' w.heap.size (fun k_ => some k_ ≠ (.slice (some ad152) x5_2.length co47 : Value).ownBlock ∧ k_ ≠ gb136 ∧ k_ ≠ s_) (.slice Ao61 x137001_2.length co61) x137001_2) ∧ (Kd.R (Kd.int .i64) 3 w' w.heap.size (fun _ => True) (.slice (some ad152) x5_2.length co47) x5_2) ∧ (w'.heap[gb136]? = some (.cells #[.int .i64 x137000_2, .slice Ao61 x137001_2.length co61] 24 (0, 0))) ∧ (w'.heap[s_]? = some (.cells #[.int .i64 0, .int .i64 0, .string (⟨#[]⟩ : ByteArray)] 27 (0, 0))) ∧ (w.heap.size ≤ s_) ∧ (w.heap.size ≤ s_) ∧ (gb136 ≠ s_) ∧ (s_ ≠ gb136) ∧ (Below w.heap.size w w')) ?_ ?_
                  rotate_left
                  ·
                   intro hCont
                   refine two_ (i := 5) (j := 10) (Ni := some 97) (Nj := some 13) #[true, true, true, true, true, true, false, false, false, false, false, false, false, false] #[true, true, true, true, true, false, false, false, false, false, true, false, false, false] rfl rfl rfl rfl (two_of HT_.out (by kernel_rfl)) (by decide) (by decide) (fun K hK => ?_) (fun K hK => ?_)
                   ·
                    skip
                    refine goes_ Try.func10 (by kernel_rfl) rfl #[.agg #[.int .i64 x137000_2, .slice Ao61 x137001_2.length co61], .int .i64 (rd x5_2 x10_3)] (by rfl) rfl rfl (by (try simp only [List.map_toArray, List.map_cons, List.map_nil]); first | done | rfl | (simp only [List.length_drop, List.length_take]; rfl)) ?_
                    with_reducible refine (window_Look.calls k4 x137000_2 _ _ x137001_2 (rd x5_2 x10_3) t153 t154 t155 true t157 _ ?side1 ?side2 A57.out).mono ?_
                    (case side1 => repeat (first | exact (Kd.V_reads' HO_137001.out).2.2 | (with_reducible refine Kd.C_alloc ?_ _) | (with_reducible refine Kd.C_drewN ?_ _) | (with_reducible refine Kd.C_drew ?_)))
                    (case side2 => exact (Kd.V_reads' HO_137001.out).2.1)
                    rintro e w63 ⟨rfl, hb⟩
                    have HS2_ := (hb.cell (World.block_lt_of_cell? _ _ (hHeld.2.2))).trans (hHeld.2.2)
                    refine ⟨_, rfl, ?_⟩
                    have n0_ := Aside0.mk (Kd.R_below (by (with_reducible repeat (first | apply Kd.R_alloc | apply Kd.R_drewN | apply Kd.R_drew)); exact HO_5.out) hb)
                    have n1_ := Aside0.mk (Kd.V_below (by (with_reducible repeat (first | apply Kd.V_alloc | apply Kd.V_drewN | apply Kd.V_drew)); exact HO_137001.out) hb)
                    have n2_ := Aside0.mk (blk_below (g := gb136) (o := .cells #[.int .i64 x137000_2, .slice Ao61 x137001_2.length co61] 24 (0, 0)) (by (with_reducible repeat first | refine B1 ?_ _ | refine B2 ?_ | refine B3 ?_ _); exact BK136.out) hb)
                    have n3_ := Aside0.mk (below_step (by repeat (first | (with_reducible first | exact HB.out | apply below_alloc | apply pw_below_drewN | apply below_drew1 | refine below_set ?_ GE136.out) | exact HB.out)) hb)
                    clear HO_5
                    clear HO_137001
                    clear BK136
                    clear HB
                    have HO_5 := n0_
                    have HO_137001 := n1_
                    have BK136 := n2_
                    have HB := n3_
                    clear n0_ n1_ n2_ n3_
                    (try clear hb)
                    (try clear hb2)
                    (try clear hk)
                    (try clear hi)
                    refine hK.out _ _ ⟨(blk_cell BK136.out 0).trans rfl, (blk_cell BK136.out 1).trans rfl, HS2_⟩ (fun hHeld => ?_)
                    clear hK K
                    refine norm_ (a' := ?_) ?_ ?_
                    rotate_left
                    ·
                     show Act.put _ (some 97) _ = _
                     simp only [Act.put, B4, B5, B6, i64_w, i32_w]
                     rfl
                    refine pure_ (i := 6) (N := some 91) (v := ?_) (a' := ?_) #[true, true, true, true, true, true, true, false, false, false, false, false, false, false] rfl rfl (any_of HT_.out (by kernel_rfl)) (fun _ _ _ h => h) (Or.inl ⟨by rfl, ?_⟩) ?_ ?_
                    rotate_left
                    ·
                     intro w'
                     go_simp
                     with_reducible rfl
                    rotate_left
                    ·
                     simp only [Act.put, B4, B5, B6, i64_w, i32_w]
                     rfl
                    refine pure_ (i := 7) (N := some 98) (v := ?_) (a' := ?_) #[true, true, true, true, true, true, true, true, false, false, false, false, false, false] rfl rfl (any_of HT_.out (by kernel_rfl)) (fun _ _ _ h => h) (Or.inl ⟨by rfl, ?_⟩) ?_ ?_
                    rotate_left
                    ·
                     intro w'
                     go_simp
                     with_reducible rfl
                    rotate_left
                    ·
                     simp only [Act.put, B4, B5, B6, i64_w, i32_w]
                     rfl
                    refine pure_ (i := 8) (N := some 99) (v := ?_) (a' := ?_) #[true, true, true, true, true, true, true, true, true, false, false, false, false, false] rfl rfl (any_of HT_.out (by kernel_rfl)) (fun _ _ _ h => h) (Or.inl ⟨by rfl, ?_⟩) ?_ ?_
                    rotate_left
                    ·
                     intro w'
                     go_simp
                     with_reducible rfl
                    rotate_left
                    ·
                     simp only [Act.put, B4, B5, B6, i64_w, i32_w]
                     rfl
                    refine pure_ (i := 9) (N := some 100) (v := ?_) (a' := ?_) #[true, true, true, true, true, true, true, true, true, true, false, false, false, false] rfl rfl (any_of HT_.out (by kernel_rfl)) (fun _ _ _ h => h) (Or.inl ⟨by rfl, ?_⟩) ?_ ?_
                    rotate_left
                    ·
                     intro w'
                     go_simp
                     with_reducible rfl
                    rotate_left
                    ·
                     simp only [Act.put, B4, B5, B6, i64_w, i32_w]
                     rfl
                    refine one_ (i := 10) (N := some 13) #[true, true, true, true, true, true, true, true, true, true, true, false, false, false] rfl rfl (one_of HT_.out (by kernel_rfl)) (by decide) (fun K hK => ?_)
                    refine box_step ?hg (N := 13) ?hd (cs := #[.int .i64 0, .int .i64 0, .string (⟨#[]⟩ : ByteArray)]) (t := 27) ?hr ?_; (case hd => rfl); (case hg => rfl); (case hr => first | (go_simp; done) | (go_simp; rfl))
                    intro gb158 hg w64 hbox hb
                    have HS2_ := (hb.cell (World.block_lt_of_cell? _ _ (hHeld.2.2))).trans (hHeld.2.2)
                    have n0_ := Aside0.mk (Kd.R_below (by (with_reducible repeat (first | apply Kd.R_alloc | apply Kd.R_drewN | apply Kd.R_drew)); exact HO_5.out) hb)
                    have n1_ := Aside0.mk (Kd.V_below (Kd.V_elderB (by (with_reducible repeat (first | apply Kd.V_alloc | apply Kd.V_drewN | apply Kd.V_drew)); exact HO_137001.out) gb158 (Nat.le_of_eq hg.symm)) hb)
                    have n2_ := Aside0.mk (blk_below (g := gb136) (o := .cells #[.int .i64 x137000_2, .slice Ao61 x137001_2.length co61] 24 (0, 0)) (by (with_reducible repeat first | refine B1 ?_ _ | refine B2 ?_ | refine B3 ?_ _); exact BK136.out) hb)
                    have n3_ := Aside0.mk (below_step (by repeat (first | (with_reducible first | exact HB.out | apply below_alloc | apply pw_below_drewN | apply below_drew1 | refine below_set ?_ GE136.out) | exact HB.out)) hb)
                    have n4_ := Aside0.mk (hbox)
                    have n5_ := Aside0.mk ((by rw [hg]; exact (below_size (by repeat (first | (with_reducible first | exact HB.out | apply below_alloc | apply pw_below_drewN | apply below_drew1 | refine below_set ?_ GE136.out) | exact HB.out))) : w.heap.size ≤ gb158))
                    have n6_ := Aside0.mk ((by rw [hg]; exact (below_size (by repeat (first | (with_reducible first | exact HB.out | apply below_alloc | apply pw_below_drewN | apply below_drew1 | refine below_set ?_ GE136.out) | exact HB.out))) : w.heap.size ≤ gb158))
                    have n7_ := Aside0.mk ((by rw [hg]; exact Nat.ne_of_lt (blk_lt (g := gb136) (o := .cells #[.int .i64 x137000_2, .slice Ao61 x137001_2.length co61] 24 (0, 0)) (by (with_reducible repeat first | refine B1 ?_ _ | refine B2 ?_ | refine B3 ?_ _); exact BK136.out)) : gb136 ≠ gb158))
                    have n8_ := Aside0.mk ((by rw [hg]; exact Nat.ne_of_gt (blk_lt (g := gb136) (o := .cells #[.int .i64 x137000_2, .slice Ao61 x137001_2.length co61] 24 (0, 0)) (by (with_reducible repeat first | refine B1 ?_ _ | refine B2 ?_ | refine B3 ?_ _); exact BK136.out)) : gb158 ≠ gb136))
                    clear HO_5
                    clear HO_137001
                    clear BK136
                    clear HB
                    have HO_5 := n0_
                    have HO_137001 := n1_
                    have BK136 := n2_
                    have HB := n3_
                    have BK158 := n4_
                    have GW158 := n5_
                    have GE158 := n6_
                    have NB136_158 := n7_
                    have NB158_136 := n8_
                    clear n0_ n1_ n2_ n3_ n4_ n5_ n6_ n7_ n8_
                    clear hb hbox hg
                    refine hK.out _ _ ⟨(blk_cell BK136.out 0).trans rfl, (blk_cell BK136.out 1).trans rfl, HS2_⟩ (fun hHeld => ?_)
                    clear hK K
                    refine norm_ (a' := ?_) ?_ ?_
                    rotate_left
                    ·
                     show Act.put _ (some 13) _ = _
                     simp only [Act.put, B4, B5, B6, i64_w, i32_w]
                     rfl
                    exact norm_ (by simp only [putAll, Act.put, List.setIfInBounds_toArray, List.set_cons_zero, List.set_cons_succ]) (hCont (gb158) _ ⟨hHeld, (by (with_reducible repeat (first | apply Kd.V_alloc | apply Kd.V_drewN | apply Kd.V_drew)); exact Kd.V_mono HO_137001.out (fun _ hk => ⟨hk.1.1, ⟨hk.1.2, hk.2⟩⟩)), (by (with_reducible repeat (first | apply Kd.R_alloc | apply Kd.R_drewN | apply Kd.R_drew)); exact HO_5.out), (by (with_reducible repeat first | refine B1 ?_ _ | refine B2 ?_ | refine B3 ?_ _); exact BK136.out), (by (with_reducible repeat first | refine B1 ?_ _ | refine B2 ?_ | refine B3 ?_ _); exact BK158.out), GW158.out, GE158.out, NB136_158.out, NB158_136.out, (by repeat (first | (with_reducible first | exact HB.out | apply below_alloc | apply pw_below_drewN | apply below_drew1 | refine below_set ?_ GE136.out | refine below_set ?_ GE158.out) | exact HB.out))⟩)
                   ·
                    skip
                    refine box_step ?hg (N := 13) ?hd (cs := #[.int .i64 0, .int .i64 0, .string (⟨#[]⟩ : ByteArray)]) (t := 27) ?hr ?_; (case hd => rfl); (case hg => rfl); (case hr => first | (go_simp; done) | (go_simp; rfl))
                    intro gb158 hg w63 hbox hb
                    have HS2_ := (hb.cell (World.block_lt_of_cell? _ _ (hHeld.2.2))).trans (hHeld.2.2)
                    have n0_ := Aside0.mk (Kd.R_below (by (with_reducible repeat (first | apply Kd.R_alloc | apply Kd.R_drewN | apply Kd.R_drew)); exact HO_5.out) hb)
                    have n1_ := Aside0.mk (Kd.V_below (Kd.V_elderB (by (with_reducible repeat (first | apply Kd.V_alloc | apply Kd.V_drewN | apply Kd.V_drew)); exact HO_137001.out) gb158 (Nat.le_of_eq hg.symm)) hb)
                    have n2_ := Aside0.mk (blk_below (g := gb136) (o := .cells #[.int .i64 x137000_2, .slice Ao61 x137001_2.length co61] 24 (0, 0)) (by (with_reducible repeat first | refine B1 ?_ _ | refine B2 ?_ | refine B3 ?_ _); exact BK136.out) hb)
                    have n3_ := Aside0.mk (below_step (by repeat (first | (with_reducible first | exact HB.out | apply below_alloc | apply pw_below_drewN | apply below_drew1 | refine below_set ?_ GE136.out) | exact HB.out)) hb)
                    have n4_ := Aside0.mk (hbox)
                    have n5_ := Aside0.mk ((by rw [hg]; exact (below_size (by repeat (first | (with_reducible first | exact HB.out | apply below_alloc | apply pw_below_drewN | apply below_drew1 | refine below_set ?_ GE136.out) | exact HB.out))) : w.heap.size ≤ gb158))
                    have n6_ := Aside0.mk ((by rw [hg]; exact (below_size (by repeat (first | (with_reducible first | exact HB.out | apply below_alloc | apply pw_below_drewN | apply below_drew1 | refine below_set ?_ GE136.out) | exact HB.out))) : w.heap.size ≤ gb158))
                    have n7_ := Aside0.mk ((by rw [hg]; exact Nat.ne_of_lt (blk_lt (g := gb136) (o := .cells #[.int .i64 x137000_2, .slice Ao61 x137001_2.length co61] 24 (0, 0)) (by (with_reducible repeat first | refine B1 ?_ _ | refine B2 ?_ | refine B3 ?_ _); exact BK136.out)) : gb136 ≠ gb158))
                    have n8_ := Aside0.mk ((by rw [hg]; exact Nat.ne_of_gt (blk_lt (g := gb136) (o := .cells #[.int .i64 x137000_2, .slice Ao61 x137001_2.length co61] 24 (0, 0)) (by (with_reducible repeat first | refine B1 ?_ _ | refine B2 ?_ | refine B3 ?_ _); exact BK136.out)) : gb158 ≠ gb136))
                    clear HO_5
                    clear HO_137001
                    clear BK136
                    clear HB
                    have HO_5 := n0_
                    have HO_137001 := n1_
                    have BK136 := n2_
                    have HB := n3_
                    have BK158 := n4_
                    have GW158 := n5_
                    have GE158 := n6_
                    have NB136_158 := n7_
                    have NB158_136 := n8_
                    clear n0_ n1_ n2_ n3_ n4_ n5_ n6_ n7_ n8_
                    clear hb hbox hg
                    refine hK.out _ _ ⟨(blk_cell BK136.out 0).trans rfl, (blk_cell BK136.out 1).trans rfl, HS2_⟩ (fun hHeld => ?_)
                    clear hK K
                    refine norm_ (a' := ?_) ?_ ?_
                    rotate_left
                    ·
                     show Act.put _ (some 13) _ = _
                     simp only [Act.put, B4, B5, B6, i64_w, i32_w]
                     rfl
                    refine one_ (i := 5) (N := some 97) #[true, true, true, true, true, true, false, false, false, false, true, false, false, false] rfl rfl (one_of HT_.out (by kernel_rfl)) (by decide) (fun K hK => ?_)
                    refine goes_ Try.func10 (by kernel_rfl) rfl #[.agg #[.int .i64 x137000_2, .slice Ao61 x137001_2.length co61], .int .i64 (rd x5_2 x10_3)] (by rfl) rfl rfl (by (try simp only [List.map_toArray, List.map_cons, List.map_nil]); first | done | rfl | (simp only [List.length_drop, List.length_take]; rfl)) ?_
                    with_reducible refine (window_Look.calls k4 x137000_2 _ _ x137001_2 (rd x5_2 x10_3) t153 t154 t155 true t157 _ ?side1 ?side2 A57.out).mono ?_
                    (case side1 => repeat (first | exact (Kd.V_reads' HO_137001.out).2.2 | (with_reducible refine Kd.C_alloc ?_ _) | (with_reducible refine Kd.C_drewN ?_ _) | (with_reducible refine Kd.C_drew ?_)))
                    (case side2 => exact (Kd.V_reads' HO_137001.out).2.1)
                    rintro e w64 ⟨rfl, hb⟩
                    have HS2_ := (hb.cell (World.block_lt_of_cell? _ _ (hHeld.2.2))).trans (hHeld.2.2)
                    refine ⟨_, rfl, ?_⟩
                    have n0_ := Aside0.mk (Kd.R_below (by (with_reducible repeat (first | apply Kd.R_alloc | apply Kd.R_drewN | apply Kd.R_drew)); exact HO_5.out) hb)
                    have n1_ := Aside0.mk (Kd.V_below (by (with_reducible repeat (first | apply Kd.V_alloc | apply Kd.V_drewN | apply Kd.V_drew)); exact HO_137001.out) hb)
                    have n2_ := Aside0.mk (blk_below (g := gb136) (o := .cells #[.int .i64 x137000_2, .slice Ao61 x137001_2.length co61] 24 (0, 0)) (by (with_reducible repeat first | refine B1 ?_ _ | refine B2 ?_ | refine B3 ?_ _); exact BK136.out) hb)
                    have n3_ := Aside0.mk (blk_below (g := gb158) (o := .cells #[.int .i64 0, .int .i64 0, .string (⟨#[]⟩ : ByteArray)] 27 (0, 0)) (by (with_reducible repeat first | refine B1 ?_ _ | refine B2 ?_ | refine B3 ?_ _); exact BK158.out) hb)
                    have n4_ := Aside0.mk (below_step (by repeat (first | (with_reducible first | exact HB.out | apply below_alloc | apply pw_below_drewN | apply below_drew1 | refine below_set ?_ GE136.out | refine below_set ?_ GE158.out) | exact HB.out)) hb)
                    clear HO_5
                    clear HO_137001
                    clear BK136
                    clear BK158
                    clear HB
                    have HO_5 := n0_
                    have HO_137001 := n1_
                    have BK136 := n2_
                    have BK158 := n3_
                    have HB := n4_
                    clear n0_ n1_ n2_ n3_ n4_
                    (try clear hb)
                    (try clear hb2)
                    (try clear hk)
                    (try clear hi)
                    refine hK.out _ _ ⟨(blk_cell BK136.out 0).trans rfl, (blk_cell BK136.out 1).trans rfl, HS2_⟩ (fun hHeld => ?_)
                    clear hK K
                    refine norm_ (a' := ?_) ?_ ?_
                    rotate_left
                    ·
                     show Act.put _ (some 97) _ = _
                     simp only [Act.put, B4, B5, B6, i64_w, i32_w]
                     rfl
                    refine pure_ (i := 6) (N := some 91) (v := ?_) (a' := ?_) #[true, true, true, true, true, true, true, false, false, false, true, false, false, false] rfl rfl (any_of HT_.out (by kernel_rfl)) (fun _ _ _ h => h) (Or.inl ⟨by rfl, ?_⟩) ?_ ?_
                    rotate_left
                    ·
                     intro w'
                     go_simp
                     with_reducible rfl
                    rotate_left
                    ·
                     simp only [Act.put, B4, B5, B6, i64_w, i32_w]
                     rfl
                    refine pure_ (i := 7) (N := some 98) (v := ?_) (a' := ?_) #[true, true, true, true, true, true, true, true, false, false, true, false, false, false] rfl rfl (any_of HT_.out (by kernel_rfl)) (fun _ _ _ h => h) (Or.inl ⟨by rfl, ?_⟩) ?_ ?_
                    rotate_left
                    ·
                     intro w'
                     go_simp
                     with_reducible rfl
                    rotate_left
                    ·
                     simp only [Act.put, B4, B5, B6, i64_w, i32_w]
                     rfl
                    refine pure_ (i := 8) (N := some 99) (v := ?_) (a' := ?_) #[true, true, true, true, true, true, true, true, true, false, true, false, false, false] rfl rfl (any_of HT_.out (by kernel_rfl)) (fun _ _ _ h => h) (Or.inl ⟨by rfl, ?_⟩) ?_ ?_
                    rotate_left
                    ·
                     intro w'
                     go_simp
                     with_reducible rfl
                    rotate_left
                    ·
                     simp only [Act.put, B4, B5, B6, i64_w, i32_w]
                     rfl
                    refine pure_ (i := 9) (N := some 100) (v := ?_) (a' := ?_) #[true, true, true, true, true, true, true, true, true, true, true, false, false, false] rfl rfl (any_of HT_.out (by kernel_rfl)) (fun _ _ _ h => h) (Or.inl ⟨by rfl, ?_⟩) ?_ ?_
                    rotate_left
                    ·
                     intro w'
                     go_simp
                     with_reducible rfl
                    rotate_left
                    ·
                     simp only [Act.put, B4, B5, B6, i64_w, i32_w]
                     rfl
                    exact norm_ (by simp only [putAll, Act.put, List.setIfInBounds_toArray, List.set_cons_zero, List.set_cons_succ]) (hCont (gb158) _ ⟨hHeld, (by (with_reducible repeat (first | apply Kd.V_alloc | apply Kd.V_drewN | apply Kd.V_drew)); exact Kd.V_mono HO_137001.out (fun _ hk => ⟨hk.1.1, ⟨hk.1.2, hk.2⟩⟩)), (by (with_reducible repeat (first | apply Kd.R_alloc | apply Kd.R_drewN | apply Kd.R_drew)); exact HO_5.out), (by (with_reducible repeat first | refine B1 ?_ _ | refine B2 ?_ | refine B3 ?_ _); exact BK136.out), (by (with_reducible repeat first | refine B1 ?_ _ | refine B2 ?_ | refine B3 ?_ _); exact BK158.out), GW158.out, GE158.out, NB136_158.out, NB158_136.out, (by repeat (first | (with_reducible first | exact HB.out | apply below_alloc | apply pw_below_drewN | apply below_drew1 | refine below_set ?_ GE136.out | refine below_set ?_ GE158.out) | exact HB.out))⟩)
                  rintro gb158 w65 ⟨hS_, h0_, h1_, h2_, h3_, h4_, h5_, h6_, h7_, h8_⟩
                  have n0_ : Aside0 (Kd.V k42 42 w65 w.heap.size (fun k_ => some k_ ≠ (.slice (some ad152) x5_2.length co47 : Value).ownBlock ∧ k_ ≠ gb136 ∧ k_ ≠ gb158) (.slice Ao61 x137001_2.length co61) x137001_2) := ⟨h0_⟩
                  have n1_ : Aside0 (Kd.R (Kd.int .i64) 3 w65 w.heap.size (fun _ => True) (.slice (some ad152) x5_2.length co47) x5_2) := ⟨h1_⟩
                  have n2_ : Aside0 (w65.heap[gb136]? = some (.cells #[.int .i64 x137000_2, .slice Ao61 x137001_2.length co61] 24 (0, 0))) := ⟨h2_⟩
                  have n3_ : Aside0 (w65.heap[gb158]? = some (.cells #[.int .i64 0, .int .i64 0, .string (⟨#[]⟩ : ByteArray)] 27 (0, 0))) := ⟨h3_⟩
                  have n4_ : Aside0 (w.heap.size ≤ gb158) := ⟨h4_⟩
                  have n5_ : Aside0 (w.heap.size ≤ gb158) := ⟨h5_⟩
                  have n6_ : Aside0 (gb136 ≠ gb158) := ⟨h6_⟩
                  have n7_ : Aside0 (gb158 ≠ gb136) := ⟨h7_⟩
                  have n8_ : Aside0 (Below w.heap.size w w65) := ⟨h8_⟩
                  clear HO_5
                  clear HO_137001
                  clear BK136
                  clear HB
                  clear h0_ h1_ h2_ h3_ h4_ h5_ h6_ h7_ h8_
                  have HO_137001 := n0_
                  have HO_5 := n1_
                  have BK136 := n2_
                  have BK158 := n3_
                  have GW158 := n4_
                  have GE158 := n5_
                  have NB136_158 := n6_
                  have NB158_136 := n7_
                  have HB := n8_
                  clear n0_ n1_ n2_ n3_ n4_ n5_ n6_ n7_ n8_
                  have hHeld : w65.cell? ⟨gb136, 0, none⟩ = some (.int .i64 x137000_2) ∧ w65.cell? ⟨gb136, 1, none⟩ = some (.slice Ao61 x137001_2.length co61) ∧ w65.cell? (ad152.add (x10_3).toNat) = some (.int .i64 (rd x5_2 x10_3)) := hS_
                  refine norm_ (a' := ?_) ?_ ?_
                  rotate_left
                  ·
                   simp only [putAll, Act.put, List.setIfInBounds_toArray, List.set_cons_zero, List.set_cons_succ]
                   rfl
                  refine one_ (i := 11) (N := none) #[true, true, true, true, true, true, true, true, true, true, true, true, false, false] rfl rfl (one_of HT_.out (by kernel_rfl)) (by decide) (fun K hK => ?_)
                  have hs66 : w65.cell? ⟨gb158, 0, none⟩ = some (.int .i64 0) := (blk_cell BK158.out 0).trans rfl
                  have hfs66 := blk_frozen BK158.out 0
                  have hns66_0 := NB136_158.out
                  have hms66_0 := NB158_136.out
                  have hs67 : w65.cell? ⟨gb158, 1, none⟩ = some (.int .i64 0) := (blk_cell BK158.out 1).trans rfl
                  have hfs67 := blk_frozen BK158.out 1
                  have hns67_0 := NB136_158.out
                  have hms67_0 := NB158_136.out
                  have hs68 : w65.cell? ⟨gb158, 2, none⟩ = some (.string (⟨#[]⟩ : ByteArray)) := (blk_cell BK158.out 2).trans rfl
                  have hfs68 := blk_frozen BK158.out 2
                  have hns68_0 := NB136_158.out
                  have hms68_0 := NB158_136.out
                  refine skip_ (w1 := ?_) (by rfl) rfl ?_ ?_
                  rotate_left
                  ·
                   go_simp
                   rfl
                  refine hK.out _ _ ⟨((cell_far (p := ⟨gb158, _, none⟩) NB136_158.out _).trans (((cell_far (p := ⟨gb158, _, none⟩) NB136_158.out _).trans (((cell_far (p := ⟨gb158, _, none⟩) NB136_158.out _).trans (hHeld.1)))))), ((cell_far (p := ⟨gb158, _, none⟩) NB136_158.out _).trans (((cell_far (p := ⟨gb158, _, none⟩) NB136_158.out _).trans (((cell_far (p := ⟨gb158, _, none⟩) NB136_158.out _).trans (hHeld.2.1)))))), ((cell_far (p := ⟨gb158, _, none⟩) (by first | exact Kd.own_blk (Kd.R_ne HO_5.out BK158.out (by decide)) | (rw [add_block]; exact Kd.own_blk (Kd.R_ne HO_5.out BK158.out (by decide))) | (show (Addr.add _ _).block ≠ _; rw [add_block]; exact Kd.own_blk (Kd.R_ne HO_5.out BK158.out (by decide))) | (dsimp only; exact Kd.own_blk (Kd.R_ne HO_5.out BK158.out (by decide)))) _).trans (((cell_far (p := ⟨gb158, _, none⟩) (by first | exact Kd.own_blk (Kd.R_ne HO_5.out BK158.out (by decide)) | (rw [add_block]; exact Kd.own_blk (Kd.R_ne HO_5.out BK158.out (by decide))) | (show (Addr.add _ _).block ≠ _; rw [add_block]; exact Kd.own_blk (Kd.R_ne HO_5.out BK158.out (by decide))) | (dsimp only; exact Kd.own_blk (Kd.R_ne HO_5.out BK158.out (by decide)))) _).trans (((cell_far (p := ⟨gb158, _, none⟩) (by first | exact Kd.own_blk (Kd.R_ne HO_5.out BK158.out (by decide)) | (rw [add_block]; exact Kd.own_blk (Kd.R_ne HO_5.out BK158.out (by decide))) | (show (Addr.add _ _).block ≠ _; rw [add_block]; exact Kd.own_blk (Kd.R_ne HO_5.out BK158.out (by decide))) | (dsimp only; exact Kd.own_blk (Kd.R_ne HO_5.out BK158.out (by decide)))) _).trans (hHeld.2.2))))))⟩ (fun hHeld => ?_)
                  clear hK K
                  refine pure_ (i := 12) (N := some 14) (v := ?_) (a' := ?_) #[true, true, true, true, true, true, true, true, true, true, true, true, true, false] rfl rfl (any_of HT_.out (by kernel_rfl)) (fun _ _ _ h => h) (Or.inl ⟨by rfl, ?_⟩) ?_ ?_
                  rotate_left
                  ·
                   intro w'
                   go_simp
                   with_reducible rfl
                  rotate_left
                  ·
                   simp only [Act.put, B4, B5, B6, i64_w, i32_w]
                   rfl
                  refine pure_ (i := 13) (N := some 15) (v := ?_) (a' := ?_) #[true, true, true, true, true, true, true, true, true, true, true, true, true, true] rfl rfl (any_of HT_.out (by kernel_rfl)) (fun _ _ _ h => h) (Or.inl ⟨by rfl, ?_⟩) ?_ ?_
                  rotate_left
                  ·
                   intro w'
                   go_simp
                   with_reducible rfl
                  rotate_left
                  ·
                   simp only [Act.put, B4, B5, B6, i64_w, i32_w]
                   rfl
                  refine done_ (done_of HT_.out (by kernel_rfl)) ?_
                  try go_wp2
                  go_roundg k4
                  case measure => have := HJ2.out; have := HK2.out; have := HK3.out; have := HK4.out; omega
                  case rel => exact ⟨(wrap64 (x10_3 + 1)), (by first | rfl | (simp; done) | (simp [*]; done)), H', ⟨by have := HJ2.out; have := HK2.out; have := HK3.out; have := HK4.out; omega⟩, ⟨by (with_reducible repeat (first | apply Kd.R_alloc | apply Kd.R_drewN | apply Kd.R_drew)); exact Kd.R_mono (Kd.R_far (p := ⟨gb158, 2, none⟩) (Kd.R_far (p := ⟨gb158, 1, none⟩) (Kd.R_far (p := ⟨gb158, 0, none⟩) (Kd.R_types HO_5.out BK158.out (by decide)) (fun _ hk => hk.2) (.int .i64 t153)) (fun _ hk => hk.2) (.int .i64 t154)) (fun _ hk => hk.2) (.string t155)) (fun _ hk => trivial)⟩, ⟨by (with_reducible repeat (first | apply Kd.V_alloc | apply Kd.V_drewN | apply Kd.V_drew)); exact Kd.V_mono (Kd.V_far (p := ⟨gb158, 2, none⟩) (Kd.V_far (p := ⟨gb158, 1, none⟩) (Kd.V_far (p := ⟨gb158, 0, none⟩) (Kd.V_mono HO_137001.out (fun k_ hk => (⟨hk, hk.2.2⟩ : _ ∧ k_ ≠ gb158))) (fun _ hk => hk.2) (.int .i64 t153)) (fun _ hk => hk.2) (.int .i64 t154)) (fun _ hk => hk.2) (.string t155)) (fun _ hk => ⟨hk.1.1, hk.1.2.1⟩)⟩, ⟨by (with_reducible repeat first | refine B1 ?_ _ | refine B2 ?_ | refine B3 ?_ _); refine blk_far ?_ NB136_158.out _; (with_reducible repeat first | refine B1 ?_ _ | refine B2 ?_ | refine B3 ?_ _); refine blk_far ?_ NB136_158.out _; (with_reducible repeat first | refine B1 ?_ _ | refine B2 ?_ | refine B3 ?_ _); refine blk_far ?_ NB136_158.out _; (with_reducible repeat first | refine B1 ?_ _ | refine B2 ?_ | refine B3 ?_ _); exact BK136.out⟩, ⟨by repeat (first | (with_reducible first | exact HB.out | apply below_alloc | apply pw_below_drewN | apply below_drew1 | refine below_set ?_ GE136.out | refine below_set ?_ GE158.out) | exact HB.out)⟩⟩
                 ·
                  rw [if_neg c60] at H
                  have c60b0 : (t157 == 0) = false := beq_eq_false_iff_ne.mpr c60
                  have c60b1 : (t157 != 0) = true := bne_iff_ne.mpr c60
                  obtain rfl := Option.some.inj H
                  obtain ⟨Ao69, co69, eo69⟩ := Kd.V_slice HO_137001.out
                  subst eo69
                  try go_wp2
                  have n0_ := Aside0.mk (Kd.R_drew HO_5.out)
                  have n1_ := Aside0.mk (Kd.V_drew HO_137001.out)
                  have n2_ := Aside0.mk (blk_drew BK136.out)
                  have n3_ := Aside0.mk (below_drew1 HB.out)
                  clear HO_5
                  clear HO_137001
                  clear BK136
                  clear HB
                  have HO_5 := n0_
                  have HO_137001 := n1_
                  have BK136 := n2_
                  have HB := n3_
                  clear n0_ n1_ n2_ n3_
                  have p152 : 0 ≤ (x10_3 : Int) := of_decide_eq_true (by first | (with_reducible assumption) | assumption)
                  have q152 : x10_3 < (x5_2.length : Int) := of_decide_eq_true (by first | (with_reducible assumption) | assumption)
                  obtain ⟨ad152, e152, hx152_0⟩ := Kd.at_int (Kd.R_reads' HO_5.out).2.2 x10_3 p152 q152
                  cases e152
                  replace p152 := eq_true p152
                  replace q152 := eq_true q152
                  refine start_ (n := 14) (S := fun w' => w'.cell? ⟨gb136, 0, none⟩ = some (.int .i64 x137000_2) ∧ w'.cell? ⟨gb136, 1, none⟩ = some (.slice Ao69 x137001_2.length co69) ∧ w'.cell? (ad152.add (x10_3).toNat) = some (.int .i64 (rd x5_2 x10_3))) (ds := []) #[false, false, false, false, false, false, false, false, false, false, false, false, false, false] (by kernel_rfl) rfl rfl ⟨(blk_cell BK136.out 0).trans rfl, (blk_cell BK136.out 1).trans rfl, hx152_0⟩ (fun hHeld => ?_); refine with_tabW colloquylaw17_WindowRuns.tab27 colloquylaw17_WindowRuns.bits27 (fun HT_ HW_ => ?_)
                  generalize wr.drew = w70 at HO_5 HO_137001 BK136 HB hx152_0 hHeld ⊢
                  refine pure_ (i := 1) (N := some 93) (v := ?_) (a' := ?_) #[false, true, false, false, false, false, false, false, false, false, false, false, false, false] rfl rfl (any_of HT_.out (by kernel_rfl)) (fun _ _ _ h => h) (Or.inl ⟨by rfl, ?_⟩) ?_ ?_
                  rotate_left
                  ·
                   intro w'
                   go_simp
                   with_reducible rfl
                  rotate_left
                  ·
                   simp only [Act.put, B4, B5, B6, i64_w, i32_w]
                   rfl
                  refine pure_ (i := 2) (N := some 94) (v := ?_) (a' := ?_) #[false, true, true, false, false, false, false, false, false, false, false, false, false, false] rfl rfl (any_of HT_.out (by kernel_rfl)) (fun _ _ _ h => h) (Or.inl ⟨by rfl, ?_⟩) ?_ ?_
                  rotate_left
                  ·
                   intro w'
                   go_simp
                   with_reducible rfl
                  rotate_left
                  ·
                   simp only [Act.put, B4, B5, B6, i64_w, i32_w]
                   rfl
                  refine pure_ (i := 3) (N := some 95) (v := ?_) (a' := ?_) #[false, true, true, true, false, false, false, false, false, false, false, false, false, false] rfl rfl (any_of HT_.out (by kernel_rfl)) (fun _ _ _ h => h) (Or.inl ⟨by rfl, ?_⟩) ?_ ?_
                  rotate_left
                  ·
                   intro w'
                   go_simp
                   with_reducible rfl
                  rotate_left
                  ·
                   simp only [Act.put, B4, B5, B6, i64_w, i32_w]
                   rfl
                  refine take_ (i := 0) (N := some 92) (v := ?_) (a' := ?_) #[true, true, true, true, false, false, false, false, false, false, false, false, false, false] rfl rfl (take_ofW HT_.out HW_.out (by kernel_rfl)) (fun _ _ _ h => h) (Or.inl ⟨by rfl, ?_⟩) hHeld ?_ ?_
                  rotate_left
                  ·
                   rintro w' ⟨s0, s1, s2⟩
                   go_simp
                   with_reducible rfl
                  rotate_left
                  ·
                   simp only [Act.put, B4, B5, B6, i64_w, i32_w]
                   rfl
                  refine take_ (i := 4) (N := some 96) (v := ?_) (a' := ?_) #[true, true, true, true, true, false, false, false, false, false, false, false, false, false] rfl rfl (take_ofW HT_.out HW_.out (by kernel_rfl)) (fun _ _ _ h => h) (Or.inl ⟨by rfl, ?_⟩) hHeld ?_ ?_
                  rotate_left
                  ·
                   rintro w' ⟨s0, s1, s2⟩
                   go_simp
                   with_reducible rfl
                  rotate_left
                  ·
                   simp only [Act.put, B4, B5, B6, i64_w, i32_w]
                   rfl
                  refine join_ (σ := Nat) 3 #[true, true, true, true, true, true, true, true, true, true, true, false, false, false] (fun s_ => [(97, .tuple #[.agg #[.int .i64 t153, .int .i64 t154, .string t155], .bool true, .int .i64 t157]), (13, .pointer (some ⟨s_, 0, none⟩)), (91, .tuple #[.agg #[.int .i64 t153, .int .i64 t154, .string t155], .bool true, .int .i64 t157]), (98, .agg #[.int .i64 t153, .int .i64 t154, .string t155]), (99, .bool true), (100, .int .i64 t157)]) (fun s_ w' => (w'.cell? ⟨gb136, 0, none⟩ = some (.int .i64 x137000_2) ∧ w'.cell? ⟨gb136, 1, none⟩ = some (.slice Ao69 x137001_2.length co69) ∧ w'.cell? (ad152.add (x10_3).toNat) = some (.int .i64 (rd x5_2 x10_3))) ∧ (Kd.V k42 42 w' w.heap.size (fun k_ => some k_ ≠ (.slice (some ad152) x5_2.length co47 : Value).ownBlock ∧ k_ ≠ gb136 ∧ k_ ≠ s_) (.slice Ao69 x137001_2.length co69) x137001_2) ∧ (Kd.R (Kd.int .i64) 3 w' w.heap.size (fun _ => True) (.slice (some ad152) x5_2.length co47) x5_2) ∧ (w'.heap[gb136]? = some (.cells #[.int .i64 x137000_2, .slice Ao69 x137001_2.length co69] 24 (0, 0))) ∧ (w'.heap[s_]? = some (.cells #[.int .i64 0, .int .i64 0, .string (⟨#[]⟩ : ByteArray)] 27 (0, 0))) ∧ (w.heap.size ≤ s_) ∧ (w.heap.size ≤ s_) ∧ (gb136 ≠ s_) ∧ (s_ ≠ gb136) ∧ (Below w.heap.size w w')) ?_ ?_
                  rotate_left
                  ·
                   intro hCont
                   refine two_ (i := 5) (j := 10) (Ni := some 97) (Nj := some 13) #[true, true, true, true, true, true, false, false, false, false, false, false, false, false] #[true, true, true, true, true, false, false, false, false, false, true, false, false, false] rfl rfl rfl rfl (two_of HT_.out (by kernel_rfl)) (by decide) (by decide) (fun K hK => ?_) (fun K hK => ?_)
                   ·
                    skip
                    refine goes_ Try.func10 (by kernel_rfl) rfl #[.agg #[.int .i64 x137000_2, .slice Ao69 x137001_2.length co69], .int .i64 (rd x5_2 x10_3)] (by rfl) rfl rfl (by (try simp only [List.map_toArray, List.map_cons, List.map_nil]); first | done | rfl | (simp only [List.length_drop, List.length_take]; rfl)) ?_
                    with_reducible refine (window_Look.calls k4 x137000_2 _ _ x137001_2 (rd x5_2 x10_3) t153 t154 t155 true t157 _ ?side1 ?side2 A57.out).mono ?_
                    (case side1 => repeat (first | exact (Kd.V_reads' HO_137001.out).2.2 | (with_reducible refine Kd.C_alloc ?_ _) | (with_reducible refine Kd.C_drewN ?_ _) | (with_reducible refine Kd.C_drew ?_)))
                    (case side2 => exact (Kd.V_reads' HO_137001.out).2.1)
                    rintro e w71 ⟨rfl, hb⟩
                    have HS2_ := (hb.cell (World.block_lt_of_cell? _ _ (hHeld.2.2))).trans (hHeld.2.2)
                    refine ⟨_, rfl, ?_⟩
                    have n0_ := Aside0.mk (Kd.R_below (by (with_reducible repeat (first | apply Kd.R_alloc | apply Kd.R_drewN | apply Kd.R_drew)); exact HO_5.out) hb)
                    have n1_ := Aside0.mk (Kd.V_below (by (with_reducible repeat (first | apply Kd.V_alloc | apply Kd.V_drewN | apply Kd.V_drew)); exact HO_137001.out) hb)
                    have n2_ := Aside0.mk (blk_below (g := gb136) (o := .cells #[.int .i64 x137000_2, .slice Ao69 x137001_2.length co69] 24 (0, 0)) (by (with_reducible repeat first | refine B1 ?_ _ | refine B2 ?_ | refine B3 ?_ _); exact BK136.out) hb)
                    have n3_ := Aside0.mk (below_step (by repeat (first | (with_reducible first | exact HB.out | apply below_alloc | apply pw_below_drewN | apply below_drew1 | refine below_set ?_ GE136.out) | exact HB.out)) hb)
                    clear HO_5
                    clear HO_137001
                    clear BK136
                    clear HB
                    have HO_5 := n0_
                    have HO_137001 := n1_
                    have BK136 := n2_
                    have HB := n3_
                    clear n0_ n1_ n2_ n3_
                    (try clear hb)
                    (try clear hb2)
                    (try clear hk)
                    (try clear hi)
                    refine hK.out _ _ ⟨(blk_cell BK136.out 0).trans rfl, (blk_cell BK136.out 1).trans rfl, HS2_⟩ (fun hHeld => ?_)
                    clear hK K
                    refine norm_ (a' := ?_) ?_ ?_
                    rotate_left
                    ·
                     show Act.put _ (some 97) _ = _
                     simp only [Act.put, B4, B5, B6, i64_w, i32_w]
                     rfl
                    refine pure_ (i := 6) (N := some 91) (v := ?_) (a' := ?_) #[true, true, true, true, true, true, true, false, false, false, false, false, false, false] rfl rfl (any_of HT_.out (by kernel_rfl)) (fun _ _ _ h => h) (Or.inl ⟨by rfl, ?_⟩) ?_ ?_
                    rotate_left
                    ·
                     intro w'
                     go_simp
                     with_reducible rfl
                    rotate_left
                    ·
                     simp only [Act.put, B4, B5, B6, i64_w, i32_w]
                     rfl
                    refine pure_ (i := 7) (N := some 98) (v := ?_) (a' := ?_) #[true, true, true, true, true, true, true, true, false, false, false, false, false, false] rfl rfl (any_of HT_.out (by kernel_rfl)) (fun _ _ _ h => h) (Or.inl ⟨by rfl, ?_⟩) ?_ ?_
                    rotate_left
                    ·
                     intro w'
                     go_simp
                     with_reducible rfl
                    rotate_left
                    ·
                     simp only [Act.put, B4, B5, B6, i64_w, i32_w]
                     rfl
                    refine pure_ (i := 8) (N := some 99) (v := ?_) (a' := ?_) #[true, true, true, true, true, true, true, true, true, false, false, false, false, false] rfl rfl (any_of HT_.out (by kernel_rfl)) (fun _ _ _ h => h) (Or.inl ⟨by rfl, ?_⟩) ?_ ?_
                    rotate_left
                    ·
                     intro w'
                     go_simp
                     with_reducible rfl
                    rotate_left
                    ·
                     simp only [Act.put, B4, B5, B6, i64_w, i32_w]
                     rfl
                    refine pure_ (i := 9) (N := some 100) (v := ?_) (a' := ?_) #[true, true, true, true, true, true, true, true, true, true, false, false, false, false] rfl rfl (any_of HT_.out (by kernel_rfl)) (fun _ _ _ h => h) (Or.inl ⟨by rfl, ?_⟩) ?_ ?_
                    rotate_left
                    ·
                     intro w'
                     go_simp
                     with_reducible rfl
                    rotate_left
                    ·
                     simp only [Act.put, B4, B5, B6, i64_w, i32_w]
                     rfl
                    refine one_ (i := 10) (N := some 13) #[true, true, true, true, true, true, true, true, true, true, true, false, false, false] rfl rfl (one_of HT_.out (by kernel_rfl)) (by decide) (fun K hK => ?_)
                    refine box_step ?hg (N := 13) ?hd (cs := #[.int .i64 0, .int .i64 0, .string (⟨#[]⟩ : ByteArray)]) (t := 27) ?hr ?_; (case hd => rfl); (case hg => rfl); (case hr => first | (go_simp; done) | (go_simp; rfl))
                    intro gb158 hg w72 hbox hb
                    have HS2_ := (hb.cell (World.block_lt_of_cell? _ _ (hHeld.2.2))).trans (hHeld.2.2)
                    have n0_ := Aside0.mk (Kd.R_below (by (with_reducible repeat (first | apply Kd.R_alloc | apply Kd.R_drewN | apply Kd.R_drew)); exact HO_5.out) hb)
                    have n1_ := Aside0.mk (Kd.V_below (Kd.V_elderB (by (with_reducible repeat (first | apply Kd.V_alloc | apply Kd.V_drewN | apply Kd.V_drew)); exact HO_137001.out) gb158 (Nat.le_of_eq hg.symm)) hb)
                    have n2_ := Aside0.mk (blk_below (g := gb136) (o := .cells #[.int .i64 x137000_2, .slice Ao69 x137001_2.length co69] 24 (0, 0)) (by (with_reducible repeat first | refine B1 ?_ _ | refine B2 ?_ | refine B3 ?_ _); exact BK136.out) hb)
                    have n3_ := Aside0.mk (below_step (by repeat (first | (with_reducible first | exact HB.out | apply below_alloc | apply pw_below_drewN | apply below_drew1 | refine below_set ?_ GE136.out) | exact HB.out)) hb)
                    have n4_ := Aside0.mk (hbox)
                    have n5_ := Aside0.mk ((by rw [hg]; exact (below_size (by repeat (first | (with_reducible first | exact HB.out | apply below_alloc | apply pw_below_drewN | apply below_drew1 | refine below_set ?_ GE136.out) | exact HB.out))) : w.heap.size ≤ gb158))
                    have n6_ := Aside0.mk ((by rw [hg]; exact (below_size (by repeat (first | (with_reducible first | exact HB.out | apply below_alloc | apply pw_below_drewN | apply below_drew1 | refine below_set ?_ GE136.out) | exact HB.out))) : w.heap.size ≤ gb158))
                    have n7_ := Aside0.mk ((by rw [hg]; exact Nat.ne_of_lt (blk_lt (g := gb136) (o := .cells #[.int .i64 x137000_2, .slice Ao69 x137001_2.length co69] 24 (0, 0)) (by (with_reducible repeat first | refine B1 ?_ _ | refine B2 ?_ | refine B3 ?_ _); exact BK136.out)) : gb136 ≠ gb158))
                    have n8_ := Aside0.mk ((by rw [hg]; exact Nat.ne_of_gt (blk_lt (g := gb136) (o := .cells #[.int .i64 x137000_2, .slice Ao69 x137001_2.length co69] 24 (0, 0)) (by (with_reducible repeat first | refine B1 ?_ _ | refine B2 ?_ | refine B3 ?_ _); exact BK136.out)) : gb158 ≠ gb136))
                    clear HO_5
                    clear HO_137001
                    clear BK136
                    clear HB
                    have HO_5 := n0_
                    have HO_137001 := n1_
                    have BK136 := n2_
                    have HB := n3_
                    have BK158 := n4_
                    have GW158 := n5_
                    have GE158 := n6_
                    have NB136_158 := n7_
                    have NB158_136 := n8_
                    clear n0_ n1_ n2_ n3_ n4_ n5_ n6_ n7_ n8_
                    clear hb hbox hg
                    refine hK.out _ _ ⟨(blk_cell BK136.out 0).trans rfl, (blk_cell BK136.out 1).trans rfl, HS2_⟩ (fun hHeld => ?_)
                    clear hK K
                    refine norm_ (a' := ?_) ?_ ?_
                    rotate_left
                    ·
                     show Act.put _ (some 13) _ = _
                     simp only [Act.put, B4, B5, B6, i64_w, i32_w]
                     rfl
                    exact norm_ (by simp only [putAll, Act.put, List.setIfInBounds_toArray, List.set_cons_zero, List.set_cons_succ]) (hCont (gb158) _ ⟨hHeld, (by (with_reducible repeat (first | apply Kd.V_alloc | apply Kd.V_drewN | apply Kd.V_drew)); exact Kd.V_mono HO_137001.out (fun _ hk => ⟨hk.1.1, ⟨hk.1.2, hk.2⟩⟩)), (by (with_reducible repeat (first | apply Kd.R_alloc | apply Kd.R_drewN | apply Kd.R_drew)); exact HO_5.out), (by (with_reducible repeat first | refine B1 ?_ _ | refine B2 ?_ | refine B3 ?_ _); exact BK136.out), (by (with_reducible repeat first | refine B1 ?_ _ | refine B2 ?_ | refine B3 ?_ _); exact BK158.out), GW158.out, GE158.out, NB136_158.out, NB158_136.out, (by repeat (first | (with_reducible first | exact HB.out | apply below_alloc | apply pw_below_drewN | apply below_drew1 | refine below_set ?_ GE136.out | refine below_set ?_ GE158.out) | exact HB.out))⟩)
                   ·
                    skip
                    refine box_step ?hg (N := 13) ?hd (cs := #[.int .i64 0, .int .i64 0, .string (⟨#[]⟩ : ByteArray)]) (t := 27) ?hr ?_; (case hd => rfl); (case hg => rfl); (case hr => first | (go_simp; done) | (go_simp; rfl))
                    intro gb158 hg w71 hbox hb
                    have HS2_ := (hb.cell (World.block_lt_of_cell? _ _ (hHeld.2.2))).trans (hHeld.2.2)
                    have n0_ := Aside0.mk (Kd.R_below (by (with_reducible repeat (first | apply Kd.R_alloc | apply Kd.R_drewN | apply Kd.R_drew)); exact HO_5.out) hb)
                    have n1_ := Aside0.mk (Kd.V_below (Kd.V_elderB (by (with_reducible repeat (first | apply Kd.V_alloc | apply Kd.V_drewN | apply Kd.V_drew)); exact HO_137001.out) gb158 (Nat.le_of_eq hg.symm)) hb)
                    have n2_ := Aside0.mk (blk_below (g := gb136) (o := .cells #[.int .i64 x137000_2, .slice Ao69 x137001_2.length co69] 24 (0, 0)) (by (with_reducible repeat first | refine B1 ?_ _ | refine B2 ?_ | refine B3 ?_ _); exact BK136.out) hb)
                    have n3_ := Aside0.mk (below_step (by repeat (first | (with_reducible first | exact HB.out | apply below_alloc | apply pw_below_drewN | apply below_drew1 | refine below_set ?_ GE136.out) | exact HB.out)) hb)
                    have n4_ := Aside0.mk (hbox)
                    have n5_ := Aside0.mk ((by rw [hg]; exact (below_size (by repeat (first | (with_reducible first | exact HB.out | apply below_alloc | apply pw_below_drewN | apply below_drew1 | refine below_set ?_ GE136.out) | exact HB.out))) : w.heap.size ≤ gb158))
                    have n6_ := Aside0.mk ((by rw [hg]; exact (below_size (by repeat (first | (with_reducible first | exact HB.out | apply below_alloc | apply pw_below_drewN | apply below_drew1 | refine below_set ?_ GE136.out) | exact HB.out))) : w.heap.size ≤ gb158))
                    have n7_ := Aside0.mk ((by rw [hg]; exact Nat.ne_of_lt (blk_lt (g := gb136) (o := .cells #[.int .i64 x137000_2, .slice Ao69 x137001_2.length co69] 24 (0, 0)) (by (with_reducible repeat first | refine B1 ?_ _ | refine B2 ?_ | refine B3 ?_ _); exact BK136.out)) : gb136 ≠ gb158))
                    have n8_ := Aside0.mk ((by rw [hg]; exact Nat.ne_of_gt (blk_lt (g := gb136) (o := .cells #[.int .i64 x137000_2, .slice Ao69 x137001_2.length co69] 24 (0, 0)) (by (with_reducible repeat first | refine B1 ?_ _ | refine B2 ?_ | refine B3 ?_ _); exact BK136.out)) : gb158 ≠ gb136))
                    clear HO_5
                    clear HO_137001
                    clear BK136
                    clear HB
                    have HO_5 := n0_
                    have HO_137001 := n1_
                    have BK136 := n2_
                    have HB := n3_
                    have BK158 := n4_
                    have GW158 := n5_
                    have GE158 := n6_
                    have NB136_158 := n7_
                    have NB158_136 := n8_
                    clear n0_ n1_ n2_ n3_ n4_ n5_ n6_ n7_ n8_
                    clear hb hbox hg
                    refine hK.out _ _ ⟨(blk_cell BK136.out 0).trans rfl, (blk_cell BK136.out 1).trans rfl, HS2_⟩ (fun hHeld => ?_)
                    clear hK K
                    refine norm_ (a' := ?_) ?_ ?_
                    rotate_left
                    ·
                     show Act.put _ (some 13) _ = _
                     simp only [Act.put, B4, B5, B6, i64_w, i32_w]
                     rfl
                    refine one_ (i := 5) (N := some 97) #[true, true, true, true, true, true, false, false, false, false, true, false, false, false] rfl rfl (one_of HT_.out (by kernel_rfl)) (by decide) (fun K hK => ?_)
                    refine goes_ Try.func10 (by kernel_rfl) rfl #[.agg #[.int .i64 x137000_2, .slice Ao69 x137001_2.length co69], .int .i64 (rd x5_2 x10_3)] (by rfl) rfl rfl (by (try simp only [List.map_toArray, List.map_cons, List.map_nil]); first | done | rfl | (simp only [List.length_drop, List.length_take]; rfl)) ?_
                    with_reducible refine (window_Look.calls k4 x137000_2 _ _ x137001_2 (rd x5_2 x10_3) t153 t154 t155 true t157 _ ?side1 ?side2 A57.out).mono ?_
                    (case side1 => repeat (first | exact (Kd.V_reads' HO_137001.out).2.2 | (with_reducible refine Kd.C_alloc ?_ _) | (with_reducible refine Kd.C_drewN ?_ _) | (with_reducible refine Kd.C_drew ?_)))
                    (case side2 => exact (Kd.V_reads' HO_137001.out).2.1)
                    rintro e w72 ⟨rfl, hb⟩
                    have HS2_ := (hb.cell (World.block_lt_of_cell? _ _ (hHeld.2.2))).trans (hHeld.2.2)
                    refine ⟨_, rfl, ?_⟩
                    have n0_ := Aside0.mk (Kd.R_below (by (with_reducible repeat (first | apply Kd.R_alloc | apply Kd.R_drewN | apply Kd.R_drew)); exact HO_5.out) hb)
                    have n1_ := Aside0.mk (Kd.V_below (by (with_reducible repeat (first | apply Kd.V_alloc | apply Kd.V_drewN | apply Kd.V_drew)); exact HO_137001.out) hb)
                    have n2_ := Aside0.mk (blk_below (g := gb136) (o := .cells #[.int .i64 x137000_2, .slice Ao69 x137001_2.length co69] 24 (0, 0)) (by (with_reducible repeat first | refine B1 ?_ _ | refine B2 ?_ | refine B3 ?_ _); exact BK136.out) hb)
                    have n3_ := Aside0.mk (blk_below (g := gb158) (o := .cells #[.int .i64 0, .int .i64 0, .string (⟨#[]⟩ : ByteArray)] 27 (0, 0)) (by (with_reducible repeat first | refine B1 ?_ _ | refine B2 ?_ | refine B3 ?_ _); exact BK158.out) hb)
                    have n4_ := Aside0.mk (below_step (by repeat (first | (with_reducible first | exact HB.out | apply below_alloc | apply pw_below_drewN | apply below_drew1 | refine below_set ?_ GE136.out | refine below_set ?_ GE158.out) | exact HB.out)) hb)
                    clear HO_5
                    clear HO_137001
                    clear BK136
                    clear BK158
                    clear HB
                    have HO_5 := n0_
                    have HO_137001 := n1_
                    have BK136 := n2_
                    have BK158 := n3_
                    have HB := n4_
                    clear n0_ n1_ n2_ n3_ n4_
                    (try clear hb)
                    (try clear hb2)
                    (try clear hk)
                    (try clear hi)
                    refine hK.out _ _ ⟨(blk_cell BK136.out 0).trans rfl, (blk_cell BK136.out 1).trans rfl, HS2_⟩ (fun hHeld => ?_)
                    clear hK K
                    refine norm_ (a' := ?_) ?_ ?_
                    rotate_left
                    ·
                     show Act.put _ (some 97) _ = _
                     simp only [Act.put, B4, B5, B6, i64_w, i32_w]
                     rfl
                    refine pure_ (i := 6) (N := some 91) (v := ?_) (a' := ?_) #[true, true, true, true, true, true, true, false, false, false, true, false, false, false] rfl rfl (any_of HT_.out (by kernel_rfl)) (fun _ _ _ h => h) (Or.inl ⟨by rfl, ?_⟩) ?_ ?_
                    rotate_left
                    ·
                     intro w'
                     go_simp
                     with_reducible rfl
                    rotate_left
                    ·
                     simp only [Act.put, B4, B5, B6, i64_w, i32_w]
                     rfl
                    refine pure_ (i := 7) (N := some 98) (v := ?_) (a' := ?_) #[true, true, true, true, true, true, true, true, false, false, true, false, false, false] rfl rfl (any_of HT_.out (by kernel_rfl)) (fun _ _ _ h => h) (Or.inl ⟨by rfl, ?_⟩) ?_ ?_
                    rotate_left
                    ·
                     intro w'
                     go_simp
                     with_reducible rfl
                    rotate_left
                    ·
                     simp only [Act.put, B4, B5, B6, i64_w, i32_w]
                     rfl
                    refine pure_ (i := 8) (N := some 99) (v := ?_) (a' := ?_) #[true, true, true, true, true, true, true, true, true, false, true, false, false, false] rfl rfl (any_of HT_.out (by kernel_rfl)) (fun _ _ _ h => h) (Or.inl ⟨by rfl, ?_⟩) ?_ ?_
                    rotate_left
                    ·
                     intro w'
                     go_simp
                     with_reducible rfl
                    rotate_left
                    ·
                     simp only [Act.put, B4, B5, B6, i64_w, i32_w]
                     rfl
                    refine pure_ (i := 9) (N := some 100) (v := ?_) (a' := ?_) #[true, true, true, true, true, true, true, true, true, true, true, false, false, false] rfl rfl (any_of HT_.out (by kernel_rfl)) (fun _ _ _ h => h) (Or.inl ⟨by rfl, ?_⟩) ?_ ?_
                    rotate_left
                    ·
                     intro w'
                     go_simp
                     with_reducible rfl
                    rotate_left
                    ·
                     simp only [Act.put, B4, B5, B6, i64_w, i32_w]
                     rfl
                    exact norm_ (by simp only [putAll, Act.put, List.setIfInBounds_toArray, List.set_cons_zero, List.set_cons_succ]) (hCont (gb158) _ ⟨hHeld, (by (with_reducible repeat (first | apply Kd.V_alloc | apply Kd.V_drewN | apply Kd.V_drew)); exact Kd.V_mono HO_137001.out (fun _ hk => ⟨hk.1.1, ⟨hk.1.2, hk.2⟩⟩)), (by (with_reducible repeat (first | apply Kd.R_alloc | apply Kd.R_drewN | apply Kd.R_drew)); exact HO_5.out), (by (with_reducible repeat first | refine B1 ?_ _ | refine B2 ?_ | refine B3 ?_ _); exact BK136.out), (by (with_reducible repeat first | refine B1 ?_ _ | refine B2 ?_ | refine B3 ?_ _); exact BK158.out), GW158.out, GE158.out, NB136_158.out, NB158_136.out, (by repeat (first | (with_reducible first | exact HB.out | apply below_alloc | apply pw_below_drewN | apply below_drew1 | refine below_set ?_ GE136.out | refine below_set ?_ GE158.out) | exact HB.out))⟩)
                  rintro gb158 w73 ⟨hS_, h0_, h1_, h2_, h3_, h4_, h5_, h6_, h7_, h8_⟩
                  have n0_ : Aside0 (Kd.V k42 42 w73 w.heap.size (fun k_ => some k_ ≠ (.slice (some ad152) x5_2.length co47 : Value).ownBlock ∧ k_ ≠ gb136 ∧ k_ ≠ gb158) (.slice Ao69 x137001_2.length co69) x137001_2) := ⟨h0_⟩
                  have n1_ : Aside0 (Kd.R (Kd.int .i64) 3 w73 w.heap.size (fun _ => True) (.slice (some ad152) x5_2.length co47) x5_2) := ⟨h1_⟩
                  have n2_ : Aside0 (w73.heap[gb136]? = some (.cells #[.int .i64 x137000_2, .slice Ao69 x137001_2.length co69] 24 (0, 0))) := ⟨h2_⟩
                  have n3_ : Aside0 (w73.heap[gb158]? = some (.cells #[.int .i64 0, .int .i64 0, .string (⟨#[]⟩ : ByteArray)] 27 (0, 0))) := ⟨h3_⟩
                  have n4_ : Aside0 (w.heap.size ≤ gb158) := ⟨h4_⟩
                  have n5_ : Aside0 (w.heap.size ≤ gb158) := ⟨h5_⟩
                  have n6_ : Aside0 (gb136 ≠ gb158) := ⟨h6_⟩
                  have n7_ : Aside0 (gb158 ≠ gb136) := ⟨h7_⟩
                  have n8_ : Aside0 (Below w.heap.size w w73) := ⟨h8_⟩
                  clear HO_5
                  clear HO_137001
                  clear BK136
                  clear HB
                  clear h0_ h1_ h2_ h3_ h4_ h5_ h6_ h7_ h8_
                  have HO_137001 := n0_
                  have HO_5 := n1_
                  have BK136 := n2_
                  have BK158 := n3_
                  have GW158 := n4_
                  have GE158 := n5_
                  have NB136_158 := n6_
                  have NB158_136 := n7_
                  have HB := n8_
                  clear n0_ n1_ n2_ n3_ n4_ n5_ n6_ n7_ n8_
                  have hHeld : w73.cell? ⟨gb136, 0, none⟩ = some (.int .i64 x137000_2) ∧ w73.cell? ⟨gb136, 1, none⟩ = some (.slice Ao69 x137001_2.length co69) ∧ w73.cell? (ad152.add (x10_3).toNat) = some (.int .i64 (rd x5_2 x10_3)) := hS_
                  refine norm_ (a' := ?_) ?_ ?_
                  rotate_left
                  ·
                   simp only [putAll, Act.put, List.setIfInBounds_toArray, List.set_cons_zero, List.set_cons_succ]
                   rfl
                  refine one_ (i := 11) (N := none) #[true, true, true, true, true, true, true, true, true, true, true, true, false, false] rfl rfl (one_of HT_.out (by kernel_rfl)) (by decide) (fun K hK => ?_)
                  have hs74 : w73.cell? ⟨gb158, 0, none⟩ = some (.int .i64 0) := (blk_cell BK158.out 0).trans rfl
                  have hfs74 := blk_frozen BK158.out 0
                  have hns74_0 := NB136_158.out
                  have hms74_0 := NB158_136.out
                  have hs75 : w73.cell? ⟨gb158, 1, none⟩ = some (.int .i64 0) := (blk_cell BK158.out 1).trans rfl
                  have hfs75 := blk_frozen BK158.out 1
                  have hns75_0 := NB136_158.out
                  have hms75_0 := NB158_136.out
                  have hs76 : w73.cell? ⟨gb158, 2, none⟩ = some (.string (⟨#[]⟩ : ByteArray)) := (blk_cell BK158.out 2).trans rfl
                  have hfs76 := blk_frozen BK158.out 2
                  have hns76_0 := NB136_158.out
                  have hms76_0 := NB158_136.out
                  refine skip_ (w1 := ?_) (by rfl) rfl ?_ ?_
                  rotate_left
                  ·
                   go_simp
                   rfl
                  refine hK.out _ _ ⟨((cell_far (p := ⟨gb158, _, none⟩) NB136_158.out _).trans (((cell_far (p := ⟨gb158, _, none⟩) NB136_158.out _).trans (((cell_far (p := ⟨gb158, _, none⟩) NB136_158.out _).trans (hHeld.1)))))), ((cell_far (p := ⟨gb158, _, none⟩) NB136_158.out _).trans (((cell_far (p := ⟨gb158, _, none⟩) NB136_158.out _).trans (((cell_far (p := ⟨gb158, _, none⟩) NB136_158.out _).trans (hHeld.2.1)))))), ((cell_far (p := ⟨gb158, _, none⟩) (by first | exact Kd.own_blk (Kd.R_ne HO_5.out BK158.out (by decide)) | (rw [add_block]; exact Kd.own_blk (Kd.R_ne HO_5.out BK158.out (by decide))) | (show (Addr.add _ _).block ≠ _; rw [add_block]; exact Kd.own_blk (Kd.R_ne HO_5.out BK158.out (by decide))) | (dsimp only; exact Kd.own_blk (Kd.R_ne HO_5.out BK158.out (by decide)))) _).trans (((cell_far (p := ⟨gb158, _, none⟩) (by first | exact Kd.own_blk (Kd.R_ne HO_5.out BK158.out (by decide)) | (rw [add_block]; exact Kd.own_blk (Kd.R_ne HO_5.out BK158.out (by decide))) | (show (Addr.add _ _).block ≠ _; rw [add_block]; exact Kd.own_blk (Kd.R_ne HO_5.out BK158.out (by decide))) | (dsimp only; exact Kd.own_blk (Kd.R_ne HO_5.out BK158.out (by decide)))) _).trans (((cell_far (p := ⟨gb158, _, none⟩) (by first | exact Kd.own_blk (Kd.R_ne HO_5.out BK158.out (by decide)) | (rw [add_block]; exact Kd.own_blk (Kd.R_ne HO_5.out BK158.out (by decide))) | (show (Addr.add _ _).block ≠ _; rw [add_block]; exact Kd.own_blk (Kd.R_ne HO_5.out BK158.out (by decide))) | (dsimp only; exact Kd.own_blk (Kd.R_ne HO_5.out BK158.out (by decide)))) _).trans (hHeld.2.2))))))⟩ (fun hHeld => ?_)
                  clear hK K
                  refine pure_ (i := 12) (N := some 14) (v := ?_) (a' := ?_) #[true, true, true, true, true, true, true, true, true, true, true, true, true, false] rfl rfl (any_of HT_.out (by kernel_rfl)) (fun _ _ _ h => h) (Or.inl ⟨by rfl, ?_⟩) ?_ ?_
                  rotate_left
                  ·
                   intro w'
                   go_simp
                   with_reducible rfl
                  rotate_left
                  ·
                   simp only [Act.put, B4, B5, B6, i64_w, i32_w]
                   rfl
                  refine pure_ (i := 13) (N := some 15) (v := ?_) (a' := ?_) #[true, true, true, true, true, true, true, true, true, true, true, true, true, true] rfl rfl (any_of HT_.out (by kernel_rfl)) (fun _ _ _ h => h) (Or.inl ⟨by rfl, ?_⟩) ?_ ?_
                  rotate_left
                  ·
                   intro w'
                   go_simp
                   with_reducible rfl
                  rotate_left
                  ·
                   simp only [Act.put, B4, B5, B6, i64_w, i32_w]
                   rfl
                  refine done_ (done_of HT_.out (by kernel_rfl)) ?_
                  try go_wp2
                  go_ret
                  exact ⟨by first | rfl | (simp [errW_none, errW_some] <;> rfl) | (simp [*, errW_none, errW_some] <;> rfl), by repeat (first | (with_reducible first | exact HB.out | apply below_alloc | apply pw_below_drewN | apply below_drew1 | refine below_set ?_ GE136.out | refine below_set ?_ GE158.out) | exact HB.out)⟩
                ·
                 replace c59 := Bool.eq_false_iff.mpr c59
                 subst c59
                 have H1 : (some false) = some r := by rw [if_neg (show ¬ (false = true) by decide)] at H; exact H
                 clear H
                 have H := H1
                 clear H1
                 obtain rfl := Option.some.inj H
                 obtain ⟨Ao77, co77, eo77⟩ := Kd.V_slice HO_137001.out
                 subst eo77
                 try go_wp2
                 have n0_ := Aside0.mk (Kd.R_drew HO_5.out)
                 have n1_ := Aside0.mk (Kd.V_drew HO_137001.out)
                 have n2_ := Aside0.mk (blk_drew BK136.out)
                 have n3_ := Aside0.mk (below_drew1 HB.out)
                 clear HO_5
                 clear HO_137001
                 clear BK136
                 clear HB
                 have HO_5 := n0_
                 have HO_137001 := n1_
                 have BK136 := n2_
                 have HB := n3_
                 clear n0_ n1_ n2_ n3_
                 have p152 : 0 ≤ (x10_3 : Int) := of_decide_eq_true (by first | (with_reducible assumption) | assumption)
                 have q152 : x10_3 < (x5_2.length : Int) := of_decide_eq_true (by first | (with_reducible assumption) | assumption)
                 obtain ⟨ad152, e152, hx152_0⟩ := Kd.at_int (Kd.R_reads' HO_5.out).2.2 x10_3 p152 q152
                 cases e152
                 replace p152 := eq_true p152
                 replace q152 := eq_true q152
                 refine start_ (n := 14) (S := fun w' => w'.cell? ⟨gb136, 0, none⟩ = some (.int .i64 x137000_2) ∧ w'.cell? ⟨gb136, 1, none⟩ = some (.slice Ao77 x137001_2.length co77) ∧ w'.cell? (ad152.add (x10_3).toNat) = some (.int .i64 (rd x5_2 x10_3))) (ds := []) #[false, false, false, false, false, false, false, false, false, false, false, false, false, false] (by kernel_rfl) rfl rfl ⟨(blk_cell BK136.out 0).trans rfl, (blk_cell BK136.out 1).trans rfl, hx152_0⟩ (fun hHeld => ?_); refine with_tabW colloquylaw17_WindowRuns.tab27 colloquylaw17_WindowRuns.bits27 (fun HT_ HW_ => ?_)
                 generalize wr.drew = w78 at HO_5 HO_137001 BK136 HB hx152_0 hHeld ⊢
                 refine pure_ (i := 1) (N := some 93) (v := ?_) (a' := ?_) #[false, true, false, false, false, false, false, false, false, false, false, false, false, false] rfl rfl (any_of HT_.out (by kernel_rfl)) (fun _ _ _ h => h) (Or.inl ⟨by rfl, ?_⟩) ?_ ?_
                 rotate_left
                 ·
                  intro w'
                  go_simp
                  with_reducible rfl
                 rotate_left
                 ·
                  simp only [Act.put, B4, B5, B6, i64_w, i32_w]
                  rfl
                 refine pure_ (i := 2) (N := some 94) (v := ?_) (a' := ?_) #[false, true, true, false, false, false, false, false, false, false, false, false, false, false] rfl rfl (any_of HT_.out (by kernel_rfl)) (fun _ _ _ h => h) (Or.inl ⟨by rfl, ?_⟩) ?_ ?_
                 rotate_left
                 ·
                  intro w'
                  go_simp
                  with_reducible rfl
                 rotate_left
                 ·
                  simp only [Act.put, B4, B5, B6, i64_w, i32_w]
                  rfl
                 refine pure_ (i := 3) (N := some 95) (v := ?_) (a' := ?_) #[false, true, true, true, false, false, false, false, false, false, false, false, false, false] rfl rfl (any_of HT_.out (by kernel_rfl)) (fun _ _ _ h => h) (Or.inl ⟨by rfl, ?_⟩) ?_ ?_
                 rotate_left
                 ·
                  intro w'
                  go_simp
                  with_reducible rfl
                 rotate_left
                 ·
                  simp only [Act.put, B4, B5, B6, i64_w, i32_w]
                  rfl
                 refine take_ (i := 0) (N := some 92) (v := ?_) (a' := ?_) #[true, true, true, true, false, false, false, false, false, false, false, false, false, false] rfl rfl (take_ofW HT_.out HW_.out (by kernel_rfl)) (fun _ _ _ h => h) (Or.inl ⟨by rfl, ?_⟩) hHeld ?_ ?_
                 rotate_left
                 ·
                  rintro w' ⟨s0, s1, s2⟩
                  go_simp
                  with_reducible rfl
                 rotate_left
                 ·
                  simp only [Act.put, B4, B5, B6, i64_w, i32_w]
                  rfl
                 refine take_ (i := 4) (N := some 96) (v := ?_) (a' := ?_) #[true, true, true, true, true, false, false, false, false, false, false, false, false, false] rfl rfl (take_ofW HT_.out HW_.out (by kernel_rfl)) (fun _ _ _ h => h) (Or.inl ⟨by rfl, ?_⟩) hHeld ?_ ?_
                 rotate_left
                 ·
                  rintro w' ⟨s0, s1, s2⟩
                  go_simp
                  with_reducible rfl
                 rotate_left
                 ·
                  simp only [Act.put, B4, B5, B6, i64_w, i32_w]
                  rfl
                 refine join_ (σ := Nat) 3 #[true, true, true, true, true, true, true, true, true, true, true, false, false, false] (fun s_ => [(97, .tuple #[.agg #[.int .i64 t153, .int .i64 t154, .string t155], .bool false, .int .i64 t157]), (13, .pointer (some ⟨s_, 0, none⟩)), (91, .tuple #[.agg #[.int .i64 t153, .int .i64 t154, .string t155], .bool false, .int .i64 t157]), (98, .agg #[.int .i64 t153, .int .i64 t154, .string t155]), (99, .bool false), (100, .int .i64 t157)]) (fun s_ w' => (w'.cell? ⟨gb136, 0, none⟩ = some (.int .i64 x137000_2) ∧ w'.cell? ⟨gb136, 1, none⟩ = some (.slice Ao77 x137001_2.length co77) ∧ w'.cell? (ad152.add (x10_3).toNat) = some (.int .i64 (rd x5_2 x10_3))) ∧ (Kd.V k42 42 w' w.heap.size (fun k_ => some k_ ≠ (.slice (some ad152) x5_2.length co47 : Value).ownBlock ∧ k_ ≠ gb136 ∧ k_ ≠ s_) (.slice Ao77 x137001_2.length co77) x137001_2) ∧ (Kd.R (Kd.int .i64) 3 w' w.heap.size (fun _ => True) (.slice (some ad152) x5_2.length co47) x5_2) ∧ (w'.heap[gb136]? = some (.cells #[.int .i64 x137000_2, .slice Ao77 x137001_2.length co77] 24 (0, 0))) ∧ (w'.heap[s_]? = some (.cells #[.int .i64 0, .int .i64 0, .string (⟨#[]⟩ : ByteArray)] 27 (0, 0))) ∧ (w.heap.size ≤ s_) ∧ (w.heap.size ≤ s_) ∧ (gb136 ≠ s_) ∧ (s_ ≠ gb136) ∧ (Below w.heap.size w w')) ?_ ?_
                 rotate_left
                 ·
                  intro hCont
                  refine two_ (i := 5) (j := 10) (Ni := some 97) (Nj := some 13) #[true, true, true, true, true, true, false, false, false, false, false, false, false, false] #[true, true, true, true, true, false, false, false, false, false, true, false, false, false] rfl rfl rfl rfl (two_of HT_.out (by kernel_rfl)) (by decide) (by decide) (fun K hK => ?_) (fun K hK => ?_)
                  ·
                   skip
                   refine goes_ Try.func10 (by kernel_rfl) rfl #[.agg #[.int .i64 x137000_2, .slice Ao77 x137001_2.length co77], .int .i64 (rd x5_2 x10_3)] (by rfl) rfl rfl (by (try simp only [List.map_toArray, List.map_cons, List.map_nil]); first | done | rfl | (simp only [List.length_drop, List.length_take]; rfl)) ?_
                   with_reducible refine (window_Look.calls k4 x137000_2 _ _ x137001_2 (rd x5_2 x10_3) t153 t154 t155 false t157 _ ?side1 ?side2 A57.out).mono ?_
                   (case side1 => repeat (first | exact (Kd.V_reads' HO_137001.out).2.2 | (with_reducible refine Kd.C_alloc ?_ _) | (with_reducible refine Kd.C_drewN ?_ _) | (with_reducible refine Kd.C_drew ?_)))
                   (case side2 => exact (Kd.V_reads' HO_137001.out).2.1)
                   rintro e w79 ⟨rfl, hb⟩
                   have HS2_ := (hb.cell (World.block_lt_of_cell? _ _ (hHeld.2.2))).trans (hHeld.2.2)
                   refine ⟨_, rfl, ?_⟩
                   have n0_ := Aside0.mk (Kd.R_below (by (with_reducible repeat (first | apply Kd.R_alloc | apply Kd.R_drewN | apply Kd.R_drew)); exact HO_5.out) hb)
                   have n1_ := Aside0.mk (Kd.V_below (by (with_reducible repeat (first | apply Kd.V_alloc | apply Kd.V_drewN | apply Kd.V_drew)); exact HO_137001.out) hb)
                   have n2_ := Aside0.mk (blk_below (g := gb136) (o := .cells #[.int .i64 x137000_2, .slice Ao77 x137001_2.length co77] 24 (0, 0)) (by (with_reducible repeat first | refine B1 ?_ _ | refine B2 ?_ | refine B3 ?_ _); exact BK136.out) hb)
                   have n3_ := Aside0.mk (below_step (by repeat (first | (with_reducible first | exact HB.out | apply below_alloc | apply pw_below_drewN | apply below_drew1 | refine below_set ?_ GE136.out) | exact HB.out)) hb)
                   clear HO_5
                   clear HO_137001
                   clear BK136
                   clear HB
                   have HO_5 := n0_
                   have HO_137001 := n1_
                   have BK136 := n2_
                   have HB := n3_
                   clear n0_ n1_ n2_ n3_
                   (try clear hb)
                   (try clear hb2)
                   (try clear hk)
                   (try clear hi)
                   refine hK.out _ _ ⟨(blk_cell BK136.out 0).trans rfl, (blk_cell BK136.out 1).trans rfl, HS2_⟩ (fun hHeld => ?_)
                   clear hK K
                   refine norm_ (a' := ?_) ?_ ?_
                   rotate_left
                   ·
                    show Act.put _ (some 97) _ = _
                    simp only [Act.put, B4, B5, B6, i64_w, i32_w]
                    rfl
                   refine pure_ (i := 6) (N := some 91) (v := ?_) (a' := ?_) #[true, true, true, true, true, true, true, false, false, false, false, false, false, false] rfl rfl (any_of HT_.out (by kernel_rfl)) (fun _ _ _ h => h) (Or.inl ⟨by rfl, ?_⟩) ?_ ?_
                   rotate_left
                   ·
                    intro w'
                    go_simp
                    with_reducible rfl
                   rotate_left
                   ·
                    simp only [Act.put, B4, B5, B6, i64_w, i32_w]
                    rfl
                   refine pure_ (i := 7) (N := some 98) (v := ?_) (a' := ?_) #[true, true, true, true, true, true, true, true, false, false, false, false, false, false] rfl rfl (any_of HT_.out (by kernel_rfl)) (fun _ _ _ h => h) (Or.inl ⟨by rfl, ?_⟩) ?_ ?_
                   rotate_left
                   ·
                    intro w'
                    go_simp
                    with_reducible rfl
                   rotate_left
                   ·
                    simp only [Act.put, B4, B5, B6, i64_w, i32_w]
                    rfl
                   refine pure_ (i := 8) (N := some 99) (v := ?_) (a' := ?_) #[true, true, true, true, true, true, true, true, true, false, false, false, false, false] rfl rfl (any_of HT_.out (by kernel_rfl)) (fun _ _ _ h => h) (Or.inl ⟨by rfl, ?_⟩) ?_ ?_
                   rotate_left
                   ·
                    intro w'
                    go_simp
                    with_reducible rfl
                   rotate_left
                   ·
                    simp only [Act.put, B4, B5, B6, i64_w, i32_w]
                    rfl
                   refine pure_ (i := 9) (N := some 100) (v := ?_) (a' := ?_) #[true, true, true, true, true, true, true, true, true, true, false, false, false, false] rfl rfl (any_of HT_.out (by kernel_rfl)) (fun _ _ _ h => h) (Or.inl ⟨by rfl, ?_⟩) ?_ ?_
                   rotate_left
                   ·
                    intro w'
                    go_simp
                    with_reducible rfl
                   rotate_left
                   ·
                    simp only [Act.put, B4, B5, B6, i64_w, i32_w]
                    rfl
                   refine one_ (i := 10) (N := some 13) #[true, true, true, true, true, true, true, true, true, true, true, false, false, false] rfl rfl (one_of HT_.out (by kernel_rfl)) (by decide) (fun K hK => ?_)
                   refine box_step ?hg (N := 13) ?hd (cs := #[.int .i64 0, .int .i64 0, .string (⟨#[]⟩ : ByteArray)]) (t := 27) ?hr ?_; (case hd => rfl); (case hg => rfl); (case hr => first | (go_simp; done) | (go_simp; rfl))
                   intro gb158 hg w80 hbox hb
                   have HS2_ := (hb.cell (World.block_lt_of_cell? _ _ (hHeld.2.2))).trans (hHeld.2.2)
                   have n0_ := Aside0.mk (Kd.R_below (by (with_reducible repeat (first | apply Kd.R_alloc | apply Kd.R_drewN | apply Kd.R_drew)); exact HO_5.out) hb)
                   have n1_ := Aside0.mk (Kd.V_below (Kd.V_elderB (by (with_reducible repeat (first | apply Kd.V_alloc | apply Kd.V_drewN | apply Kd.V_drew)); exact HO_137001.out) gb158 (Nat.le_of_eq hg.symm)) hb)
                   have n2_ := Aside0.mk (blk_below (g := gb136) (o := .cells #[.int .i64 x137000_2, .slice Ao77 x137001_2.length co77] 24 (0, 0)) (by (with_reducible repeat first | refine B1 ?_ _ | refine B2 ?_ | refine B3 ?_ _); exact BK136.out) hb)
                   have n3_ := Aside0.mk (below_step (by repeat (first | (with_reducible first | exact HB.out | apply below_alloc | apply pw_below_drewN | apply below_drew1 | refine below_set ?_ GE136.out) | exact HB.out)) hb)
                   have n4_ := Aside0.mk (hbox)
                   have n5_ := Aside0.mk ((by rw [hg]; exact (below_size (by repeat (first | (with_reducible first | exact HB.out | apply below_alloc | apply pw_below_drewN | apply below_drew1 | refine below_set ?_ GE136.out) | exact HB.out))) : w.heap.size ≤ gb158))
                   have n6_ := Aside0.mk ((by rw [hg]; exact (below_size (by repeat (first | (with_reducible first | exact HB.out | apply below_alloc | apply pw_below_drewN | apply below_drew1 | refine below_set ?_ GE136.out) | exact HB.out))) : w.heap.size ≤ gb158))
                   have n7_ := Aside0.mk ((by rw [hg]; exact Nat.ne_of_lt (blk_lt (g := gb136) (o := .cells #[.int .i64 x137000_2, .slice Ao77 x137001_2.length co77] 24 (0, 0)) (by (with_reducible repeat first | refine B1 ?_ _ | refine B2 ?_ | refine B3 ?_ _); exact BK136.out)) : gb136 ≠ gb158))
                   have n8_ := Aside0.mk ((by rw [hg]; exact Nat.ne_of_gt (blk_lt (g := gb136) (o := .cells #[.int .i64 x137000_2, .slice Ao77 x137001_2.length co77] 24 (0, 0)) (by (with_reducible repeat first | refine B1 ?_ _ | refine B2 ?_ | refine B3 ?_ _); exact BK136.out)) : gb158 ≠ gb136))
                   clear HO_5
                   clear HO_137001
                   clear BK136
                   clear HB
                   have HO_5 := n0_
                   have HO_137001 := n1_
                   have BK136 := n2_
                   have HB := n3_
                   have BK158 := n4_
                   have GW158 := n5_
                   have GE158 := n6_
                   have NB136_158 := n7_
                   have NB158_136 := n8_
                   clear n0_ n1_ n2_ n3_ n4_ n5_ n6_ n7_ n8_
                   clear hb hbox hg
                   refine hK.out _ _ ⟨(blk_cell BK136.out 0).trans rfl, (blk_cell BK136.out 1).trans rfl, HS2_⟩ (fun hHeld => ?_)
                   clear hK K
                   refine norm_ (a' := ?_) ?_ ?_
                   rotate_left
                   ·
                    show Act.put _ (some 13) _ = _
                    simp only [Act.put, B4, B5, B6, i64_w, i32_w]
                    rfl
                   exact norm_ (by simp only [putAll, Act.put, List.setIfInBounds_toArray, List.set_cons_zero, List.set_cons_succ]) (hCont (gb158) _ ⟨hHeld, (by (with_reducible repeat (first | apply Kd.V_alloc | apply Kd.V_drewN | apply Kd.V_drew)); exact Kd.V_mono HO_137001.out (fun _ hk => ⟨hk.1.1, ⟨hk.1.2, hk.2⟩⟩)), (by (with_reducible repeat (first | apply Kd.R_alloc | apply Kd.R_drewN | apply Kd.R_drew)); exact HO_5.out), (by (with_reducible repeat first | refine B1 ?_ _ | refine B2 ?_ | refine B3 ?_ _); exact BK136.out), (by (with_reducible repeat first | refine B1 ?_ _ | refine B2 ?_ | refine B3 ?_ _); exact BK158.out), GW158.out, GE158.out, NB136_158.out, NB158_136.out, (by repeat (first | (with_reducible first | exact HB.out | apply below_alloc | apply pw_below_drewN | apply below_drew1 | refine below_set ?_ GE136.out | refine below_set ?_ GE158.out) | exact HB.out))⟩)
                  ·
                   skip
                   refine box_step ?hg (N := 13) ?hd (cs := #[.int .i64 0, .int .i64 0, .string (⟨#[]⟩ : ByteArray)]) (t := 27) ?hr ?_; (case hd => rfl); (case hg => rfl); (case hr => first | (go_simp; done) | (go_simp; rfl))
                   intro gb158 hg w79 hbox hb
                   have HS2_ := (hb.cell (World.block_lt_of_cell? _ _ (hHeld.2.2))).trans (hHeld.2.2)
                   have n0_ := Aside0.mk (Kd.R_below (by (with_reducible repeat (first | apply Kd.R_alloc | apply Kd.R_drewN | apply Kd.R_drew)); exact HO_5.out) hb)
                   have n1_ := Aside0.mk (Kd.V_below (Kd.V_elderB (by (with_reducible repeat (first | apply Kd.V_alloc | apply Kd.V_drewN | apply Kd.V_drew)); exact HO_137001.out) gb158 (Nat.le_of_eq hg.symm)) hb)
                   have n2_ := Aside0.mk (blk_below (g := gb136) (o := .cells #[.int .i64 x137000_2, .slice Ao77 x137001_2.length co77] 24 (0, 0)) (by (with_reducible repeat first | refine B1 ?_ _ | refine B2 ?_ | refine B3 ?_ _); exact BK136.out) hb)
                   have n3_ := Aside0.mk (below_step (by repeat (first | (with_reducible first | exact HB.out | apply below_alloc | apply pw_below_drewN | apply below_drew1 | refine below_set ?_ GE136.out) | exact HB.out)) hb)
                   have n4_ := Aside0.mk (hbox)
                   have n5_ := Aside0.mk ((by rw [hg]; exact (below_size (by repeat (first | (with_reducible first | exact HB.out | apply below_alloc | apply pw_below_drewN | apply below_drew1 | refine below_set ?_ GE136.out) | exact HB.out))) : w.heap.size ≤ gb158))
                   have n6_ := Aside0.mk ((by rw [hg]; exact (below_size (by repeat (first | (with_reducible first | exact HB.out | apply below_alloc | apply pw_below_drewN | apply below_drew1 | refine below_set ?_ GE136.out) | exact HB.out))) : w.heap.size ≤ gb158))
                   have n7_ := Aside0.mk ((by rw [hg]; exact Nat.ne_of_lt (blk_lt (g := gb136) (o := .cells #[.int .i64 x137000_2, .slice Ao77 x137001_2.length co77] 24 (0, 0)) (by (with_reducible repeat first | refine B1 ?_ _ | refine B2 ?_ | refine B3 ?_ _); exact BK136.out)) : gb136 ≠ gb158))
                   have n8_ := Aside0.mk ((by rw [hg]; exact Nat.ne_of_gt (blk_lt (g := gb136) (o := .cells #[.int .i64 x137000_2, .slice Ao77 x137001_2.length co77] 24 (0, 0)) (by (with_reducible repeat first | refine B1 ?_ _ | refine B2 ?_ | refine B3 ?_ _); exact BK136.out)) : gb158 ≠ gb136))
                   clear HO_5
                   clear HO_137001
                   clear BK136
                   clear HB
                   have HO_5 := n0_
                   have HO_137001 := n1_
                   have BK136 := n2_
                   have HB := n3_
                   have BK158 := n4_
                   have GW158 := n5_
                   have GE158 := n6_
                   have NB136_158 := n7_
                   have NB158_136 := n8_
                   clear n0_ n1_ n2_ n3_ n4_ n5_ n6_ n7_ n8_
                   clear hb hbox hg
                   refine hK.out _ _ ⟨(blk_cell BK136.out 0).trans rfl, (blk_cell BK136.out 1).trans rfl, HS2_⟩ (fun hHeld => ?_)
                   clear hK K
                   refine norm_ (a' := ?_) ?_ ?_
                   rotate_left
                   ·
                    show Act.put _ (some 13) _ = _
                    simp only [Act.put, B4, B5, B6, i64_w, i32_w]
                    rfl
                   refine one_ (i := 5) (N := some 97) #[true, true, true, true, true, true, false, false, false, false, true, false, false, false] rfl rfl (one_of HT_.out (by kernel_rfl)) (by decide) (fun K hK => ?_)
                   refine goes_ Try.func10 (by kernel_rfl) rfl #[.agg #[.int .i64 x137000_2, .slice Ao77 x137001_2.length co77], .int .i64 (rd x5_2 x10_3)] (by rfl) rfl rfl (by (try simp only [List.map_toArray, List.map_cons, List.map_nil]); first | done | rfl | (simp only [List.length_drop, List.length_take]; rfl)) ?_
                   with_reducible refine (window_Look.calls k4 x137000_2 _ _ x137001_2 (rd x5_2 x10_3) t153 t154 t155 false t157 _ ?side1 ?side2 A57.out).mono ?_
                   (case side1 => repeat (first | exact (Kd.V_reads' HO_137001.out).2.2 | (with_reducible refine Kd.C_alloc ?_ _) | (with_reducible refine Kd.C_drewN ?_ _) | (with_reducible refine Kd.C_drew ?_)))
                   (case side2 => exact (Kd.V_reads' HO_137001.out).2.1)
                   rintro e w80 ⟨rfl, hb⟩
                   have HS2_ := (hb.cell (World.block_lt_of_cell? _ _ (hHeld.2.2))).trans (hHeld.2.2)
                   refine ⟨_, rfl, ?_⟩
                   have n0_ := Aside0.mk (Kd.R_below (by (with_reducible repeat (first | apply Kd.R_alloc | apply Kd.R_drewN | apply Kd.R_drew)); exact HO_5.out) hb)
                   have n1_ := Aside0.mk (Kd.V_below (by (with_reducible repeat (first | apply Kd.V_alloc | apply Kd.V_drewN | apply Kd.V_drew)); exact HO_137001.out) hb)
                   have n2_ := Aside0.mk (blk_below (g := gb136) (o := .cells #[.int .i64 x137000_2, .slice Ao77 x137001_2.length co77] 24 (0, 0)) (by (with_reducible repeat first | refine B1 ?_ _ | refine B2 ?_ | refine B3 ?_ _); exact BK136.out) hb)
                   have n3_ := Aside0.mk (blk_below (g := gb158) (o := .cells #[.int .i64 0, .int .i64 0, .string (⟨#[]⟩ : ByteArray)] 27 (0, 0)) (by (with_reducible repeat first | refine B1 ?_ _ | refine B2 ?_ | refine B3 ?_ _); exact BK158.out) hb)
                   have n4_ := Aside0.mk (below_step (by repeat (first | (with_reducible first | exact HB.out | apply below_alloc | apply pw_below_drewN | apply below_drew1 | refine below_set ?_ GE136.out | refine below_set ?_ GE158.out) | exact HB.out)) hb)
                   clear HO_5
                   clear HO_137001
                   clear BK136
                   clear BK158
                   clear HB
                   have HO_5 := n0_
                   have HO_137001 := n1_
                   have BK136 := n2_
                   have BK158 := n3_
                   have HB := n4_
                   clear n0_ n1_ n2_ n3_ n4_
                   (try clear hb)
                   (try clear hb2)
                   (try clear hk)
                   (try clear hi)
                   refine hK.out _ _ ⟨(blk_cell BK136.out 0).trans rfl, (blk_cell BK136.out 1).trans rfl, HS2_⟩ (fun hHeld => ?_)
                   clear hK K
                   refine norm_ (a' := ?_) ?_ ?_
                   rotate_left
                   ·
                    show Act.put _ (some 97) _ = _
                    simp only [Act.put, B4, B5, B6, i64_w, i32_w]
                    rfl
                   refine pure_ (i := 6) (N := some 91) (v := ?_) (a' := ?_) #[true, true, true, true, true, true, true, false, false, false, true, false, false, false] rfl rfl (any_of HT_.out (by kernel_rfl)) (fun _ _ _ h => h) (Or.inl ⟨by rfl, ?_⟩) ?_ ?_
                   rotate_left
                   ·
                    intro w'
                    go_simp
                    with_reducible rfl
                   rotate_left
                   ·
                    simp only [Act.put, B4, B5, B6, i64_w, i32_w]
                    rfl
                   refine pure_ (i := 7) (N := some 98) (v := ?_) (a' := ?_) #[true, true, true, true, true, true, true, true, false, false, true, false, false, false] rfl rfl (any_of HT_.out (by kernel_rfl)) (fun _ _ _ h => h) (Or.inl ⟨by rfl, ?_⟩) ?_ ?_
                   rotate_left
                   ·
                    intro w'
                    go_simp
                    with_reducible rfl
                   rotate_left
                   ·
                    simp only [Act.put, B4, B5, B6, i64_w, i32_w]
                    rfl
                   refine pure_ (i := 8) (N := some 99) (v := ?_) (a' := ?_) #[true, true, true, true, true, true, true, true, true, false, true, false, false, false] rfl rfl (any_of HT_.out (by kernel_rfl)) (fun _ _ _ h => h) (Or.inl ⟨by rfl, ?_⟩) ?_ ?_
                   rotate_left
                   ·
                    intro w'
                    go_simp
                    with_reducible rfl
                   rotate_left
                   ·
                    simp only [Act.put, B4, B5, B6, i64_w, i32_w]
                    rfl
                   refine pure_ (i := 9) (N := some 100) (v := ?_) (a' := ?_) #[true, true, true, true, true, true, true, true, true, true, true, false, false, false] rfl rfl (any_of HT_.out (by kernel_rfl)) (fun _ _ _ h => h) (Or.inl ⟨by rfl, ?_⟩) ?_ ?_
                   rotate_left
                   ·
                    intro w'
                    go_simp
                    with_reducible rfl
                   rotate_left
                   ·
                    simp only [Act.put, B4, B5, B6, i64_w, i32_w]
                    rfl
                   exact norm_ (by simp only [putAll, Act.put, List.setIfInBounds_toArray, List.set_cons_zero, List.set_cons_succ]) (hCont (gb158) _ ⟨hHeld, (by (with_reducible repeat (first | apply Kd.V_alloc | apply Kd.V_drewN | apply Kd.V_drew)); exact Kd.V_mono HO_137001.out (fun _ hk => ⟨hk.1.1, ⟨hk.1.2, hk.2⟩⟩)), (by (with_reducible repeat (first | apply Kd.R_alloc | apply Kd.R_drewN | apply Kd.R_drew)); exact HO_5.out), (by (with_reducible repeat first | refine B1 ?_ _ | refine B2 ?_ | refine B3 ?_ _); exact BK136.out), (by (with_reducible repeat first | refine B1 ?_ _ | refine B2 ?_ | refine B3 ?_ _); exact BK158.out), GW158.out, GE158.out, NB136_158.out, NB158_136.out, (by repeat (first | (with_reducible first | exact HB.out | apply below_alloc | apply pw_below_drewN | apply below_drew1 | refine below_set ?_ GE136.out | refine below_set ?_ GE158.out) | exact HB.out))⟩)
                 rintro gb158 w81 ⟨hS_, h0_, h1_, h2_, h3_, h4_, h5_, h6_, h7_, h8_⟩
                 have n0_ : Aside0 (Kd.V k42 42 w81 w.heap.size (fun k_ => some k_ ≠ (.slice (some ad152) x5_2.length co47 : Value).ownBlock ∧ k_ ≠ gb136 ∧ k_ ≠ gb158) (.slice Ao77 x137001_2.length co77) x137001_2) := ⟨h0_⟩
                 have n1_ : Aside0 (Kd.R (Kd.int .i64) 3 w81 w.heap.size (fun _ => True) (.slice (some ad152) x5_2.length co47) x5_2) := ⟨h1_⟩
                 have n2_ : Aside0 (w81.heap[gb136]? = some (.cells #[.int .i64 x137000_2, .slice Ao77 x137001_2.length co77] 24 (0, 0))) := ⟨h2_⟩
                 have n3_ : Aside0 (w81.heap[gb158]? = some (.cells #[.int .i64 0, .int .i64 0, .string (⟨#[]⟩ : ByteArray)] 27 (0, 0))) := ⟨h3_⟩
                 have n4_ : Aside0 (w.heap.size ≤ gb158) := ⟨h4_⟩
                 have n5_ : Aside0 (w.heap.size ≤ gb158) := ⟨h5_⟩
                 have n6_ : Aside0 (gb136 ≠ gb158) := ⟨h6_⟩
                 have n7_ : Aside0 (gb158 ≠ gb136) := ⟨h7_⟩
                 have n8_ : Aside0 (Below w.heap.size w w81) := ⟨h8_⟩
                 clear HO_5
                 clear HO_137001
                 clear BK136
                 clear HB
                 clear h0_ h1_ h2_ h3_ h4_ h5_ h6_ h7_ h8_
                 have HO_137001 := n0_
                 have HO_5 := n1_
                 have BK136 := n2_
                 have BK158 := n3_
                 have GW158 := n4_
                 have GE158 := n5_
                 have NB136_158 := n6_
                 have NB158_136 := n7_
                 have HB := n8_
                 clear n0_ n1_ n2_ n3_ n4_ n5_ n6_ n7_ n8_
                 have hHeld : w81.cell? ⟨gb136, 0, none⟩ = some (.int .i64 x137000_2) ∧ w81.cell? ⟨gb136, 1, none⟩ = some (.slice Ao77 x137001_2.length co77) ∧ w81.cell? (ad152.add (x10_3).toNat) = some (.int .i64 (rd x5_2 x10_3)) := hS_
                 refine norm_ (a' := ?_) ?_ ?_
                 rotate_left
                 ·
                  simp only [putAll, Act.put, List.setIfInBounds_toArray, List.set_cons_zero, List.set_cons_succ]
                  rfl
                 refine one_ (i := 11) (N := none) #[true, true, true, true, true, true, true, true, true, true, true, true, false, false] rfl rfl (one_of HT_.out (by kernel_rfl)) (by decide) (fun K hK => ?_)
                 have hs82 : w81.cell? ⟨gb158, 0, none⟩ = some (.int .i64 0) := (blk_cell BK158.out 0).trans rfl
                 have hfs82 := blk_frozen BK158.out 0
                 have hns82_0 := NB136_158.out
                 have hms82_0 := NB158_136.out
                 have hs83 : w81.cell? ⟨gb158, 1, none⟩ = some (.int .i64 0) := (blk_cell BK158.out 1).trans rfl
                 have hfs83 := blk_frozen BK158.out 1
                 have hns83_0 := NB136_158.out
                 have hms83_0 := NB158_136.out
                 have hs84 : w81.cell? ⟨gb158, 2, none⟩ = some (.string (⟨#[]⟩ : ByteArray)) := (blk_cell BK158.out 2).trans rfl
                 have hfs84 := blk_frozen BK158.out 2
                 have hns84_0 := NB136_158.out
                 have hms84_0 := NB158_136.out
                 refine skip_ (w1 := ?_) (by rfl) rfl ?_ ?_
                 rotate_left
                 ·
                  go_simp
                  rfl
                 refine hK.out _ _ ⟨((cell_far (p := ⟨gb158, _, none⟩) NB136_158.out _).trans (((cell_far (p := ⟨gb158, _, none⟩) NB136_158.out _).trans (((cell_far (p := ⟨gb158, _, none⟩) NB136_158.out _).trans (hHeld.1)))))), ((cell_far (p := ⟨gb158, _, none⟩) NB136_158.out _).trans (((cell_far (p := ⟨gb158, _, none⟩) NB136_158.out _).trans (((cell_far (p := ⟨gb158, _, none⟩) NB136_158.out _).trans (hHeld.2.1)))))), ((cell_far (p := ⟨gb158, _, none⟩) (by first | exact Kd.own_blk (Kd.R_ne HO_5.out BK158.out (by decide)) | (rw [add_block]; exact Kd.own_blk (Kd.R_ne HO_5.out BK158.out (by decide))) | (show (Addr.add _ _).block ≠ _; rw [add_block]; exact Kd.own_blk (Kd.R_ne HO_5.out BK158.out (by decide))) | (dsimp only; exact Kd.own_blk (Kd.R_ne HO_5.out BK158.out (by decide)))) _).trans (((cell_far (p := ⟨gb158, _, none⟩) (by first | exact Kd.own_blk (Kd.R_ne HO_5.out BK158.out (by decide)) | (rw [add_block]; exact Kd.own_blk (Kd.R_ne HO_5.out BK158.out (by decide))) | (show (Addr.add _ _).block ≠ _; rw [add_block]; exact Kd.own_blk (Kd.R_ne HO_5.out BK158.out (by decide))) | (dsimp only; exact Kd.own_blk (Kd.R_ne HO_5.out BK158.out (by decide)))) _).trans (((cell_far (p := ⟨gb158, _, none⟩) (by first | exact Kd.own_blk (Kd.R_ne HO_5.out BK158.out (by decide)) | (rw [add_block]; exact Kd.own_blk (Kd.R_ne HO_5.out BK158.out (by decide))) | (show (Addr.add _ _).block ≠ _; rw [add_block]; exact Kd.own_blk (Kd.R_ne HO_5.out BK158.out (by decide))) | (dsimp only; exact Kd.own_blk (Kd.R_ne HO_5.out BK158.out (by decide)))) _).trans (hHeld.2.2))))))⟩ (fun hHeld => ?_)
                 clear hK K
                 refine pure_ (i := 12) (N := some 14) (v := ?_) (a' := ?_) #[true, true, true, true, true, true, true, true, true, true, true, true, true, false] rfl rfl (any_of HT_.out (by kernel_rfl)) (fun _ _ _ h => h) (Or.inl ⟨by rfl, ?_⟩) ?_ ?_
                 rotate_left
                 ·
                  intro w'
                  go_simp
                  with_reducible rfl
                 rotate_left
                 ·
                  simp only [Act.put, B4, B5, B6, i64_w, i32_w]
                  rfl
                 refine pure_ (i := 13) (N := some 15) (v := ?_) (a' := ?_) #[true, true, true, true, true, true, true, true, true, true, true, true, true, true] rfl rfl (any_of HT_.out (by kernel_rfl)) (fun _ _ _ h => h) (Or.inl ⟨by rfl, ?_⟩) ?_ ?_
                 rotate_left
                 ·
                  intro w'
                  go_simp
                  with_reducible rfl
                 rotate_left
                 ·
                  simp only [Act.put, B4, B5, B6, i64_w, i32_w]
                  rfl
                 refine done_ (done_of HT_.out (by kernel_rfl)) ?_
                 try go_wp2
                 go_ret
                 exact ⟨by first | rfl | (simp [errW_none, errW_some] <;> rfl) | (simp [*, errW_none, errW_some] <;> rfl), by repeat (first | (with_reducible first | exact HB.out | apply below_alloc | apply pw_below_drewN | apply below_drew1 | refine below_set ?_ GE136.out | refine below_set ?_ GE158.out) | exact HB.out)⟩
               ·
                rw [if_neg c58] at H
                have c58b0 : decide (x11_4 < 8) = false := decide_eq_false c58
                clear c58
                have H' := Aside0.mk H
                clear H
                obtain ⟨Ao85, co85, eo85⟩ := Kd.V_slice HO_137001.out
                subst eo85
                try go_wp2
                have n0_ := Aside0.mk (Kd.R_drew HO_5.out)
                have n1_ := Aside0.mk (Kd.V_drew HO_137001.out)
                have n2_ := Aside0.mk (blk_drew BK136.out)
                have n3_ := Aside0.mk (below_drew1 HB.out)
                clear HO_5
                clear HO_137001
                clear BK136
                clear HB
                have HO_5 := n0_
                have HO_137001 := n1_
                have BK136 := n2_
                have HB := n3_
                clear n0_ n1_ n2_ n3_
                have p152 : 0 ≤ (x10_3 : Int) := of_decide_eq_true (by first | (with_reducible assumption) | assumption)
                have q152 : x10_3 < (x5_2.length : Int) := of_decide_eq_true (by first | (with_reducible assumption) | assumption)
                obtain ⟨ad152, e152, hx152_0⟩ := Kd.at_int (Kd.R_reads' HO_5.out).2.2 x10_3 p152 q152
                cases e152
                replace p152 := eq_true p152
                replace q152 := eq_true q152
                refine start_ (n := 14) (S := fun w' => w'.cell? ⟨gb136, 0, none⟩ = some (.int .i64 x137000_2) ∧ w'.cell? ⟨gb136, 1, none⟩ = some (.slice Ao85 x137001_2.length co85) ∧ w'.cell? (ad152.add (x10_3).toNat) = some (.int .i64 (rd x5_2 x10_3))) (ds := []) #[false, false, false, false, false, false, false, false, false, false, false, false, false, false] (by kernel_rfl) rfl rfl ⟨(blk_cell BK136.out 0).trans rfl, (blk_cell BK136.out 1).trans rfl, hx152_0⟩ (fun hHeld => ?_); refine with_tabW colloquylaw17_WindowRuns.tab27 colloquylaw17_WindowRuns.bits27 (fun HT_ HW_ => ?_)
                generalize wr.drew = w86 at HO_5 HO_137001 BK136 HB hx152_0 hHeld ⊢
                refine pure_ (i := 1) (N := some 93) (v := ?_) (a' := ?_) #[false, true, false, false, false, false, false, false, false, false, false, false, false, false] rfl rfl (any_of HT_.out (by kernel_rfl)) (fun _ _ _ h => h) (Or.inl ⟨by rfl, ?_⟩) ?_ ?_
                rotate_left
                ·
                 intro w'
                 go_simp
                 with_reducible rfl
                rotate_left
                ·
                 simp only [Act.put, B4, B5, B6, i64_w, i32_w]
                 rfl
                refine pure_ (i := 2) (N := some 94) (v := ?_) (a' := ?_) #[false, true, true, false, false, false, false, false, false, false, false, false, false, false] rfl rfl (any_of HT_.out (by kernel_rfl)) (fun _ _ _ h => h) (Or.inl ⟨by rfl, ?_⟩) ?_ ?_
                rotate_left
                ·
                 intro w'
                 go_simp
                 with_reducible rfl
                rotate_left
                ·
                 simp only [Act.put, B4, B5, B6, i64_w, i32_w]
                 rfl
                refine pure_ (i := 3) (N := some 95) (v := ?_) (a' := ?_) #[false, true, true, true, false, false, false, false, false, false, false, false, false, false] rfl rfl (any_of HT_.out (by kernel_rfl)) (fun _ _ _ h => h) (Or.inl ⟨by rfl, ?_⟩) ?_ ?_
                rotate_left
                ·
                 intro w'
                 go_simp
                 with_reducible rfl
                rotate_left
                ·
                 simp only [Act.put, B4, B5, B6, i64_w, i32_w]
                 rfl
                refine take_ (i := 0) (N := some 92) (v := ?_) (a' := ?_) #[true, true, true, true, false, false, false, false, false, false, false, false, false, false] rfl rfl (take_ofW HT_.out HW_.out (by kernel_rfl)) (fun _ _ _ h => h) (Or.inl ⟨by rfl, ?_⟩) hHeld ?_ ?_
                rotate_left
                ·
                 rintro w' ⟨s0, s1, s2⟩
                 go_simp
                 with_reducible rfl
                rotate_left
                ·
                 simp only [Act.put, B4, B5, B6, i64_w, i32_w]
                 rfl
                refine take_ (i := 4) (N := some 96) (v := ?_) (a' := ?_) #[true, true, true, true, true, false, false, false, false, false, false, false, false, false] rfl rfl (take_ofW HT_.out HW_.out (by kernel_rfl)) (fun _ _ _ h => h) (Or.inl ⟨by rfl, ?_⟩) hHeld ?_ ?_
                rotate_left
                ·
                 rintro w' ⟨s0, s1, s2⟩
                 go_simp
                 with_reducible rfl
                rotate_left
                ·
                 simp only [Act.put, B4, B5, B6, i64_w, i32_w]
                 rfl
                refine join_ (σ := Nat) 3 #[true, true, true, true, true, true, true, true, true, true, true, false, false, false] (fun s_ => [(97, .tuple #[.agg #[.int .i64 t153, .int .i64 t154, .string t155], .bool t156, .int .i64 t157]), (13, .pointer (some ⟨s_, 0, none⟩)), (91, .tuple #[.agg #[.int .i64 t153, .int .i64 t154, .string t155], .bool t156, .int .i64 t157]), (98, .agg #[.int .i64 t153, .int .i64 t154, .string t155]), (99, .bool t156), (100, .int .i64 t157)]) (fun s_ w' => (w'.cell? ⟨gb136, 0, none⟩ = some (.int .i64 x137000_2) ∧ w'.cell? ⟨gb136, 1, none⟩ = some (.slice Ao85 x137001_2.length co85) ∧ w'.cell? (ad152.add (x10_3).toNat) = some (.int .i64 (rd x5_2 x10_3))) ∧ (Kd.V k42 42 w' w.heap.size (fun k_ => some k_ ≠ (.slice (some ad152) x5_2.length co47 : Value).ownBlock ∧ k_ ≠ gb136 ∧ k_ ≠ s_) (.slice Ao85 x137001_2.length co85) x137001_2) ∧ (Kd.R (Kd.int .i64) 3 w' w.heap.size (fun _ => True) (.slice (some ad152) x5_2.length co47) x5_2) ∧ (w'.heap[gb136]? = some (.cells #[.int .i64 x137000_2, .slice Ao85 x137001_2.length co85] 24 (0, 0))) ∧ (w'.heap[s_]? = some (.cells #[.int .i64 0, .int .i64 0, .string (⟨#[]⟩ : ByteArray)] 27 (0, 0))) ∧ (w.heap.size ≤ s_) ∧ (w.heap.size ≤ s_) ∧ (gb136 ≠ s_) ∧ (s_ ≠ gb136) ∧ (Below w.heap.size w w')) ?_ ?_
                rotate_left
                ·
                 intro hCont
                 refine two_ (i := 5) (j := 10) (Ni := some 97) (Nj := some 13) #[true, true, true, true, true, true, false, false, false, false, false, false, false, false] #[true, true, true, true, true, false, false, false, false, false, true, false, false, false] rfl rfl rfl rfl (two_of HT_.out (by kernel_rfl)) (by decide) (by decide) (fun K hK => ?_) (fun K hK => ?_)
                 ·
                  skip
                  refine goes_ Try.func10 (by kernel_rfl) rfl #[.agg #[.int .i64 x137000_2, .slice Ao85 x137001_2.length co85], .int .i64 (rd x5_2 x10_3)] (by rfl) rfl rfl (by (try simp only [List.map_toArray, List.map_cons, List.map_nil]); first | done | rfl | (simp only [List.length_drop, List.length_take]; rfl)) ?_
                  with_reducible refine (window_Look.calls k4 x137000_2 _ _ x137001_2 (rd x5_2 x10_3) t153 t154 t155 t156 t157 _ ?side1 ?side2 A57.out).mono ?_
                  (case side1 => repeat (first | exact (Kd.V_reads' HO_137001.out).2.2 | (with_reducible refine Kd.C_alloc ?_ _) | (with_reducible refine Kd.C_drewN ?_ _) | (with_reducible refine Kd.C_drew ?_)))
                  (case side2 => exact (Kd.V_reads' HO_137001.out).2.1)
                  rintro e w87 ⟨rfl, hb⟩
                  have HS2_ := (hb.cell (World.block_lt_of_cell? _ _ (hHeld.2.2))).trans (hHeld.2.2)
                  refine ⟨_, rfl, ?_⟩
                  have n0_ := Aside0.mk (Kd.R_below (by (with_reducible repeat (first | apply Kd.R_alloc | apply Kd.R_drewN | apply Kd.R_drew)); exact HO_5.out) hb)
                  have n1_ := Aside0.mk (Kd.V_below (by (with_reducible repeat (first | apply Kd.V_alloc | apply Kd.V_drewN | apply Kd.V_drew)); exact HO_137001.out) hb)
                  have n2_ := Aside0.mk (blk_below (g := gb136) (o := .cells #[.int .i64 x137000_2, .slice Ao85 x137001_2.length co85] 24 (0, 0)) (by (with_reducible repeat first | refine B1 ?_ _ | refine B2 ?_ | refine B3 ?_ _); exact BK136.out) hb)
                  have n3_ := Aside0.mk (below_step (by repeat (first | (with_reducible first | exact HB.out | apply below_alloc | apply pw_below_drewN | apply below_drew1 | refine below_set ?_ GE136.out) | exact HB.out)) hb)
                  clear HO_5
                  clear HO_137001
                  clear BK136
                  clear HB
                  have HO_5 := n0_
                  have HO_137001 := n1_
                  have BK136 := n2_
                  have HB := n3_
                  clear n0_ n1_ n2_ n3_
                  (try clear hb)
                  (try clear hb2)
                  (try clear hk)
                  (try clear hi)
                  refine hK.out _ _ ⟨(blk_cell BK136.out 0).trans rfl, (blk_cell BK136.out 1).trans rfl, HS2_⟩ (fun hHeld => ?_)
                  clear hK K
                  refine norm_ (a' := ?_) ?_ ?_
                  rotate_left
                  ·
                   show Act.put _ (some 97) _ = _
                   simp only [Act.put, B4, B5, B6, i64_w, i32_w]
                   rfl
                  refine pure_ (i := 6) (N := some 91) (v := ?_) (a' := ?_) #[true, true, true, true, true, true, true, false, false, false, false, false, false, false] rfl rfl (any_of HT_.out (by kernel_rfl)) (fun _ _ _ h => h) (Or.inl ⟨by rfl, ?_⟩) ?_ ?_
                  rotate_left
                  ·
                   intro w'
                   go_simp
                   with_reducible rfl
                  rotate_left
                  ·
                   simp only [Act.put, B4, B5, B6, i64_w, i32_w]
                   rfl
                  refine pure_ (i := 7) (N := some 98) (v := ?_) (a' := ?_) #[true, true, true, true, true, true, true, true, false, false, false, false, false, false] rfl rfl (any_of HT_.out (by kernel_rfl)) (fun _ _ _ h => h) (Or.inl ⟨by rfl, ?_⟩) ?_ ?_
                  rotate_left
                  ·
                   intro w'
                   go_simp
                   with_reducible rfl
                  rotate_left
                  ·
                   simp only [Act.put, B4, B5, B6, i64_w, i32_w]
                   rfl
                  refine pure_ (i := 8) (N := some 99) (v := ?_) (a' := ?_) #[true, true, true, true, true, true, true, true, true, false, false, false, false, false] rfl rfl (any_of HT_.out (by kernel_rfl)) (fun _ _ _ h => h) (Or.inl ⟨by rfl, ?_⟩) ?_ ?_
                  rotate_left
                  ·
                   intro w'
                   go_simp
                   with_reducible rfl
                  rotate_left
                  ·
                   simp only [Act.put, B4, B5, B6, i64_w, i32_w]
                   rfl
                  refine pure_ (i := 9) (N := some 100) (v := ?_) (a' := ?_) #[true, true, true, true, true, true, true, true, true, true, false, false, false, false] rfl rfl (any_of HT_.out (by kernel_rfl)) (fun _ _ _ h => h) (Or.inl ⟨by rfl, ?_⟩) ?_ ?_
                  rotate_left
                  ·
                   intro w'
                   go_simp
                   with_reducible rfl
                  rotate_left
                  ·
                   simp only [Act.put, B4, B5, B6, i64_w, i32_w]
                   rfl
                  refine one_ (i := 10) (N := some 13) #[true, true, true, true, true, true, true, true, true, true, true, false, false, false] rfl rfl (one_of HT_.out (by kernel_rfl)) (by decide) (fun K hK => ?_)
                  refine box_step ?hg (N := 13) ?hd (cs := #[.int .i64 0, .int .i64 0, .string (⟨#[]⟩ : ByteArray)]) (t := 27) ?hr ?_; (case hd => rfl); (case hg => rfl); (case hr => first | (go_simp; done) | (go_simp; rfl))
                  intro gb158 hg w88 hbox hb
                  have HS2_ := (hb.cell (World.block_lt_of_cell? _ _ (hHeld.2.2))).trans (hHeld.2.2)
                  have n0_ := Aside0.mk (Kd.R_below (by (with_reducible repeat (first | apply Kd.R_alloc | apply Kd.R_drewN | apply Kd.R_drew)); exact HO_5.out) hb)
                  have n1_ := Aside0.mk (Kd.V_below (Kd.V_elderB (by (with_reducible repeat (first | apply Kd.V_alloc | apply Kd.V_drewN | apply Kd.V_drew)); exact HO_137001.out) gb158 (Nat.le_of_eq hg.symm)) hb)
                  have n2_ := Aside0.mk (blk_below (g := gb136) (o := .cells #[.int .i64 x137000_2, .slice Ao85 x137001_2.length co85] 24 (0, 0)) (by (with_reducible repeat first | refine B1 ?_ _ | refine B2 ?_ | refine B3 ?_ _); exact BK136.out) hb)
                  have n3_ := Aside0.mk (below_step (by repeat (first | (with_reducible first | exact HB.out | apply below_alloc | apply pw_below_drewN | apply below_drew1 | refine below_set ?_ GE136.out) | exact HB.out)) hb)
                  have n4_ := Aside0.mk (hbox)
                  have n5_ := Aside0.mk ((by rw [hg]; exact (below_size (by repeat (first | (with_reducible first | exact HB.out | apply below_alloc | apply pw_below_drewN | apply below_drew1 | refine below_set ?_ GE136.out) | exact HB.out))) : w.heap.size ≤ gb158))
                  have n6_ := Aside0.mk ((by rw [hg]; exact (below_size (by repeat (first | (with_reducible first | exact HB.out | apply below_alloc | apply pw_below_drewN | apply below_drew1 | refine below_set ?_ GE136.out) | exact HB.out))) : w.heap.size ≤ gb158))
                  have n7_ := Aside0.mk ((by rw [hg]; exact Nat.ne_of_lt (blk_lt (g := gb136) (o := .cells #[.int .i64 x137000_2, .slice Ao85 x137001_2.length co85] 24 (0, 0)) (by (with_reducible repeat first | refine B1 ?_ _ | refine B2 ?_ | refine B3 ?_ _); exact BK136.out)) : gb136 ≠ gb158))
                  have n8_ := Aside0.mk ((by rw [hg]; exact Nat.ne_of_gt (blk_lt (g := gb136) (o := .cells #[.int .i64 x137000_2, .slice Ao85 x137001_2.length co85] 24 (0, 0)) (by (with_reducible repeat first | refine B1 ?_ _ | refine B2 ?_ | refine B3 ?_ _); exact BK136.out)) : gb158 ≠ gb136))
                  clear HO_5
                  clear HO_137001
                  clear BK136
                  clear HB
                  have HO_5 := n0_
                  have HO_137001 := n1_
                  have BK136 := n2_
                  have HB := n3_
                  have BK158 := n4_
                  have GW158 := n5_
                  have GE158 := n6_
                  have NB136_158 := n7_
                  have NB158_136 := n8_
                  clear n0_ n1_ n2_ n3_ n4_ n5_ n6_ n7_ n8_
                  clear hb hbox hg
                  refine hK.out _ _ ⟨(blk_cell BK136.out 0).trans rfl, (blk_cell BK136.out 1).trans rfl, HS2_⟩ (fun hHeld => ?_)
                  clear hK K
                  refine norm_ (a' := ?_) ?_ ?_
                  rotate_left
                  ·
                   show Act.put _ (some 13) _ = _
                   simp only [Act.put, B4, B5, B6, i64_w, i32_w]
                   rfl
                  exact norm_ (by simp only [putAll, Act.put, List.setIfInBounds_toArray, List.set_cons_zero, List.set_cons_succ]) (hCont (gb158) _ ⟨hHeld, (by (with_reducible repeat (first | apply Kd.V_alloc | apply Kd.V_drewN | apply Kd.V_drew)); exact Kd.V_mono HO_137001.out (fun _ hk => ⟨hk.1.1, ⟨hk.1.2, hk.2⟩⟩)), (by (with_reducible repeat (first | apply Kd.R_alloc | apply Kd.R_drewN | apply Kd.R_drew)); exact HO_5.out), (by (with_reducible repeat first | refine B1 ?_ _ | refine B2 ?_ | refine B3 ?_ _); exact BK136.out), (by (with_reducible repeat first | refine B1 ?_ _ | refine B2 ?_ | refine B3 ?_ _); exact BK158.out), GW158.out, GE158.out, NB136_158.out, NB158_136.out, (by repeat (first | (with_reducible first | exact HB.out | apply below_alloc | apply pw_below_drewN | apply below_drew1 | refine below_set ?_ GE136.out | refine below_set ?_ GE158.out) | exact HB.out))⟩)
                 ·
                  skip
                  refine box_step ?hg (N := 13) ?hd (cs := #[.int .i64 0, .int .i64 0, .string (⟨#[]⟩ : ByteArray)]) (t := 27) ?hr ?_; (case hd => rfl); (case hg => rfl); (case hr => first | (go_simp; done) | (go_simp; rfl))
                  intro gb158 hg w87 hbox hb
                  have HS2_ := (hb.cell (World.block_lt_of_cell? _ _ (hHeld.2.2))).trans (hHeld.2.2)
                  have n0_ := Aside0.mk (Kd.R_below (by (with_reducible repeat (first | apply Kd.R_alloc | apply Kd.R_drewN | apply Kd.R_drew)); exact HO_5.out) hb)
                  have n1_ := Aside0.mk (Kd.V_below (Kd.V_elderB (by (with_reducible repeat (first | apply Kd.V_alloc | apply Kd.V_drewN | apply Kd.V_drew)); exact HO_137001.out) gb158 (Nat.le_of_eq hg.symm)) hb)
                  have n2_ := Aside0.mk (blk_below (g := gb136) (o := .cells #[.int .i64 x137000_2, .slice Ao85 x137001_2.length co85] 24 (0, 0)) (by (with_reducible repeat first | refine B1 ?_ _ | refine B2 ?_ | refine B3 ?_ _); exact BK136.out) hb)
                  have n3_ := Aside0.mk (below_step (by repeat (first | (with_reducible first | exact HB.out | apply below_alloc | apply pw_below_drewN | apply below_drew1 | refine below_set ?_ GE136.out) | exact HB.out)) hb)
                  have n4_ := Aside0.mk (hbox)
                  have n5_ := Aside0.mk ((by rw [hg]; exact (below_size (by repeat (first | (with_reducible first | exact HB.out | apply below_alloc | apply pw_below_drewN | apply below_drew1 | refine below_set ?_ GE136.out) | exact HB.out))) : w.heap.size ≤ gb158))
                  have n6_ := Aside0.mk ((by rw [hg]; exact (below_size (by repeat (first | (with_reducible first | exact HB.out | apply below_alloc | apply pw_below_drewN | apply below_drew1 | refine below_set ?_ GE136.out) | exact HB.out))) : w.heap.size ≤ gb158))
                  have n7_ := Aside0.mk ((by rw [hg]; exact Nat.ne_of_lt (blk_lt (g := gb136) (o := .cells #[.int .i64 x137000_2, .slice Ao85 x137001_2.length co85] 24 (0, 0)) (by (with_reducible repeat first | refine B1 ?_ _ | refine B2 ?_ | refine B3 ?_ _); exact BK136.out)) : gb136 ≠ gb158))
                  have n8_ := Aside0.mk ((by rw [hg]; exact Nat.ne_of_gt (blk_lt (g := gb136) (o := .cells #[.int .i64 x137000_2, .slice Ao85 x137001_2.length co85] 24 (0, 0)) (by (with_reducible repeat first | refine B1 ?_ _ | refine B2 ?_ | refine B3 ?_ _); exact BK136.out)) : gb158 ≠ gb136))
                  clear HO_5
                  clear HO_137001
                  clear BK136
                  clear HB
                  have HO_5 := n0_
                  have HO_137001 := n1_
                  have BK136 := n2_
                  have HB := n3_
                  have BK158 := n4_
                  have GW158 := n5_
                  have GE158 := n6_
                  have NB136_158 := n7_
                  have NB158_136 := n8_
                  clear n0_ n1_ n2_ n3_ n4_ n5_ n6_ n7_ n8_
                  clear hb hbox hg
                  refine hK.out _ _ ⟨(blk_cell BK136.out 0).trans rfl, (blk_cell BK136.out 1).trans rfl, HS2_⟩ (fun hHeld => ?_)
                  clear hK K
                  refine norm_ (a' := ?_) ?_ ?_
                  rotate_left
                  ·
                   show Act.put _ (some 13) _ = _
                   simp only [Act.put, B4, B5, B6, i64_w, i32_w]
                   rfl
                  refine one_ (i := 5) (N := some 97) #[true, true, true, true, true, true, false, false, false, false, true, false, false, false] rfl rfl (one_of HT_.out (by kernel_rfl)) (by decide) (fun K hK => ?_)
                  refine goes_ Try.func10 (by kernel_rfl) rfl #[.agg #[.int .i64 x137000_2, .slice Ao85 x137001_2.length co85], .int .i64 (rd x5_2 x10_3)] (by rfl) rfl rfl (by (try simp only [List.map_toArray, List.map_cons, List.map_nil]); first | done | rfl | (simp only [List.length_drop, List.length_take]; rfl)) ?_
                  with_reducible refine (window_Look.calls k4 x137000_2 _ _ x137001_2 (rd x5_2 x10_3) t153 t154 t155 t156 t157 _ ?side1 ?side2 A57.out).mono ?_
                  (case side1 => repeat (first | exact (Kd.V_reads' HO_137001.out).2.2 | (with_reducible refine Kd.C_alloc ?_ _) | (with_reducible refine Kd.C_drewN ?_ _) | (with_reducible refine Kd.C_drew ?_)))
                  (case side2 => exact (Kd.V_reads' HO_137001.out).2.1)
                  rintro e w88 ⟨rfl, hb⟩
                  have HS2_ := (hb.cell (World.block_lt_of_cell? _ _ (hHeld.2.2))).trans (hHeld.2.2)
                  refine ⟨_, rfl, ?_⟩
                  have n0_ := Aside0.mk (Kd.R_below (by (with_reducible repeat (first | apply Kd.R_alloc | apply Kd.R_drewN | apply Kd.R_drew)); exact HO_5.out) hb)
                  have n1_ := Aside0.mk (Kd.V_below (by (with_reducible repeat (first | apply Kd.V_alloc | apply Kd.V_drewN | apply Kd.V_drew)); exact HO_137001.out) hb)
                  have n2_ := Aside0.mk (blk_below (g := gb136) (o := .cells #[.int .i64 x137000_2, .slice Ao85 x137001_2.length co85] 24 (0, 0)) (by (with_reducible repeat first | refine B1 ?_ _ | refine B2 ?_ | refine B3 ?_ _); exact BK136.out) hb)
                  have n3_ := Aside0.mk (blk_below (g := gb158) (o := .cells #[.int .i64 0, .int .i64 0, .string (⟨#[]⟩ : ByteArray)] 27 (0, 0)) (by (with_reducible repeat first | refine B1 ?_ _ | refine B2 ?_ | refine B3 ?_ _); exact BK158.out) hb)
                  have n4_ := Aside0.mk (below_step (by repeat (first | (with_reducible first | exact HB.out | apply below_alloc | apply pw_below_drewN | apply below_drew1 | refine below_set ?_ GE136.out | refine below_set ?_ GE158.out) | exact HB.out)) hb)
                  clear HO_5
                  clear HO_137001
                  clear BK136
                  clear BK158
                  clear HB
                  have HO_5 := n0_
                  have HO_137001 := n1_
                  have BK136 := n2_
                  have BK158 := n3_
                  have HB := n4_
                  clear n0_ n1_ n2_ n3_ n4_
                  (try clear hb)
                  (try clear hb2)
                  (try clear hk)
                  (try clear hi)
                  refine hK.out _ _ ⟨(blk_cell BK136.out 0).trans rfl, (blk_cell BK136.out 1).trans rfl, HS2_⟩ (fun hHeld => ?_)
                  clear hK K
                  refine norm_ (a' := ?_) ?_ ?_
                  rotate_left
                  ·
                   show Act.put _ (some 97) _ = _
                   simp only [Act.put, B4, B5, B6, i64_w, i32_w]
                   rfl
                  refine pure_ (i := 6) (N := some 91) (v := ?_) (a' := ?_) #[true, true, true, true, true, true, true, false, false, false, true, false, false, false] rfl rfl (any_of HT_.out (by kernel_rfl)) (fun _ _ _ h => h) (Or.inl ⟨by rfl, ?_⟩) ?_ ?_
                  rotate_left
                  ·
                   intro w'
                   go_simp
                   with_reducible rfl
                  rotate_left
                  ·
                   simp only [Act.put, B4, B5, B6, i64_w, i32_w]
                   rfl
                  refine pure_ (i := 7) (N := some 98) (v := ?_) (a' := ?_) #[true, true, true, true, true, true, true, true, false, false, true, false, false, false] rfl rfl (any_of HT_.out (by kernel_rfl)) (fun _ _ _ h => h) (Or.inl ⟨by rfl, ?_⟩) ?_ ?_
                  rotate_left
                  ·
                   intro w'
                   go_simp
                   with_reducible rfl
                  rotate_left
                  ·
                   simp only [Act.put, B4, B5, B6, i64_w, i32_w]
                   rfl
                  refine pure_ (i := 8) (N := some 99) (v := ?_) (a' := ?_) #[true, true, true, true, true, true, true, true, true, false, true, false, false, false] rfl rfl (any_of HT_.out (by kernel_rfl)) (fun _ _ _ h => h) (Or.inl ⟨by rfl, ?_⟩) ?_ ?_
                  rotate_left
                  ·
                   intro w'
                   go_simp
                   with_reducible rfl
                  rotate_left
                  ·
                   simp only [Act.put, B4, B5, B6, i64_w, i32_w]
                   rfl
                  refine pure_ (i := 9) (N := some 100) (v := ?_) (a' := ?_) #[true, true, true, true, true, true, true, true, true, true, true, false, false, false] rfl rfl (any_of HT_.out (by kernel_rfl)) (fun _ _ _ h => h) (Or.inl ⟨by rfl, ?_⟩) ?_ ?_
                  rotate_left
                  ·
                   intro w'
                   go_simp
                   with_reducible rfl
                  rotate_left
                  ·
                   simp only [Act.put, B4, B5, B6, i64_w, i32_w]
                   rfl
                  exact norm_ (by simp only [putAll, Act.put, List.setIfInBounds_toArray, List.set_cons_zero, List.set_cons_succ]) (hCont (gb158) _ ⟨hHeld, (by (with_reducible repeat (first | apply Kd.V_alloc | apply Kd.V_drewN | apply Kd.V_drew)); exact Kd.V_mono HO_137001.out (fun _ hk => ⟨hk.1.1, ⟨hk.1.2, hk.2⟩⟩)), (by (with_reducible repeat (first | apply Kd.R_alloc | apply Kd.R_drewN | apply Kd.R_drew)); exact HO_5.out), (by (with_reducible repeat first | refine B1 ?_ _ | refine B2 ?_ | refine B3 ?_ _); exact BK136.out), (by (with_reducible repeat first | refine B1 ?_ _ | refine B2 ?_ | refine B3 ?_ _); exact BK158.out), GW158.out, GE158.out, NB136_158.out, NB158_136.out, (by repeat (first | (with_reducible first | exact HB.out | apply below_alloc | apply pw_below_drewN | apply below_drew1 | refine below_set ?_ GE136.out | refine below_set ?_ GE158.out) | exact HB.out))⟩)
                rintro gb158 w89 ⟨hS_, h0_, h1_, h2_, h3_, h4_, h5_, h6_, h7_, h8_⟩
                have n0_ : Aside0 (Kd.V k42 42 w89 w.heap.size (fun k_ => some k_ ≠ (.slice (some ad152) x5_2.length co47 : Value).ownBlock ∧ k_ ≠ gb136 ∧ k_ ≠ gb158) (.slice Ao85 x137001_2.length co85) x137001_2) := ⟨h0_⟩
                have n1_ : Aside0 (Kd.R (Kd.int .i64) 3 w89 w.heap.size (fun _ => True) (.slice (some ad152) x5_2.length co47) x5_2) := ⟨h1_⟩
                have n2_ : Aside0 (w89.heap[gb136]? = some (.cells #[.int .i64 x137000_2, .slice Ao85 x137001_2.length co85] 24 (0, 0))) := ⟨h2_⟩
                have n3_ : Aside0 (w89.heap[gb158]? = some (.cells #[.int .i64 0, .int .i64 0, .string (⟨#[]⟩ : ByteArray)] 27 (0, 0))) := ⟨h3_⟩
                have n4_ : Aside0 (w.heap.size ≤ gb158) := ⟨h4_⟩
                have n5_ : Aside0 (w.heap.size ≤ gb158) := ⟨h5_⟩
                have n6_ : Aside0 (gb136 ≠ gb158) := ⟨h6_⟩
                have n7_ : Aside0 (gb158 ≠ gb136) := ⟨h7_⟩
                have n8_ : Aside0 (Below w.heap.size w w89) := ⟨h8_⟩
                clear HO_5
                clear HO_137001
                clear BK136
                clear HB
                clear h0_ h1_ h2_ h3_ h4_ h5_ h6_ h7_ h8_
                have HO_137001 := n0_
                have HO_5 := n1_
                have BK136 := n2_
                have BK158 := n3_
                have GW158 := n4_
                have GE158 := n5_
                have NB136_158 := n6_
                have NB158_136 := n7_
                have HB := n8_
                clear n0_ n1_ n2_ n3_ n4_ n5_ n6_ n7_ n8_
                have hHeld : w89.cell? ⟨gb136, 0, none⟩ = some (.int .i64 x137000_2) ∧ w89.cell? ⟨gb136, 1, none⟩ = some (.slice Ao85 x137001_2.length co85) ∧ w89.cell? (ad152.add (x10_3).toNat) = some (.int .i64 (rd x5_2 x10_3)) := hS_
                refine norm_ (a' := ?_) ?_ ?_
                rotate_left
                ·
                 simp only [putAll, Act.put, List.setIfInBounds_toArray, List.set_cons_zero, List.set_cons_succ]
                 rfl
                refine one_ (i := 11) (N := none) #[true, true, true, true, true, true, true, true, true, true, true, true, false, false] rfl rfl (one_of HT_.out (by kernel_rfl)) (by decide) (fun K hK => ?_)
                have hs90 : w89.cell? ⟨gb158, 0, none⟩ = some (.int .i64 0) := (blk_cell BK158.out 0).trans rfl
                have hfs90 := blk_frozen BK158.out 0
                have hns90_0 := NB136_158.out
                have hms90_0 := NB158_136.out
                have hs91 : w89.cell? ⟨gb158, 1, none⟩ = some (.int .i64 0) := (blk_cell BK158.out 1).trans rfl
                have hfs91 := blk_frozen BK158.out 1
                have hns91_0 := NB136_158.out
                have hms91_0 := NB158_136.out
                have hs92 : w89.cell? ⟨gb158, 2, none⟩ = some (.string (⟨#[]⟩ : ByteArray)) := (blk_cell BK158.out 2).trans rfl
                have hfs92 := blk_frozen BK158.out 2
                have hns92_0 := NB136_158.out
                have hms92_0 := NB158_136.out
                refine skip_ (w1 := ?_) (by rfl) rfl ?_ ?_
                rotate_left
                ·
                 go_simp
                 rfl
                refine hK.out _ _ ⟨((cell_far (p := ⟨gb158, _, none⟩) NB136_158.out _).trans (((cell_far (p := ⟨gb158, _, none⟩) NB136_158.out _).trans (((cell_far (p := ⟨gb158, _, none⟩) NB136_158.out _).trans (hHeld.1)))))), ((cell_far (p := ⟨gb158, _, none⟩) NB136_158.out _).trans (((cell_far (p := ⟨gb158, _, none⟩) NB136_158.out _).trans (((cell_far (p := ⟨gb158, _, none⟩) NB136_158.out _).trans (hHeld.2.1)))))), ((cell_far (p := ⟨gb158, _, none⟩) (by first | exact Kd.own_blk (Kd.R_ne HO_5.out BK158.out (by decide)) | (rw [add_block]; exact Kd.own_blk (Kd.R_ne HO_5.out BK158.out (by decide))) | (show (Addr.add _ _).block ≠ _; rw [add_block]; exact Kd.own_blk (Kd.R_ne HO_5.out BK158.out (by decide))) | (dsimp only; exact Kd.own_blk (Kd.R_ne HO_5.out BK158.out (by decide)))) _).trans (((cell_far (p := ⟨gb158, _, none⟩) (by first | exact Kd.own_blk (Kd.R_ne HO_5.out BK158.out (by decide)) | (rw [add_block]; exact Kd.own_blk (Kd.R_ne HO_5.out BK158.out (by decide))) | (show (Addr.add _ _).block ≠ _; rw [add_block]; exact Kd.own_blk (Kd.R_ne HO_5.out BK158.out (by decide))) | (dsimp only; exact Kd.own_blk (Kd.R_ne HO_5.out BK158.out (by decide)))) _).trans (((cell_far (p := ⟨gb158, _, none⟩) (by first | exact Kd.own_blk (Kd.R_ne HO_5.out BK158.out (by decide)) | (rw [add_block]; exact Kd.own_blk (Kd.R_ne HO_5.out BK158.out (by decide))) | (show (Addr.add _ _).block ≠ _; rw [add_block]; exact Kd.own_blk (Kd.R_ne HO_5.out BK158.out (by decide))) | (dsimp only; exact Kd.own_blk (Kd.R_ne HO_5.out BK158.out (by decide)))) _).trans (hHeld.2.2))))))⟩ (fun hHeld => ?_)
                clear hK K
                refine pure_ (i := 12) (N := some 14) (v := ?_) (a' := ?_) #[true, true, true, true, true, true, true, true, true, true, true, true, true, false] rfl rfl (any_of HT_.out (by kernel_rfl)) (fun _ _ _ h => h) (Or.inl ⟨by rfl, ?_⟩) ?_ ?_
                rotate_left
                ·
                 intro w'
                 go_simp
                 with_reducible rfl
                rotate_left
                ·
                 simp only [Act.put, B4, B5, B6, i64_w, i32_w]
                 rfl
                refine pure_ (i := 13) (N := some 15) (v := ?_) (a' := ?_) #[true, true, true, true, true, true, true, true, true, true, true, true, true, true] rfl rfl (any_of HT_.out (by kernel_rfl)) (fun _ _ _ h => h) (Or.inl ⟨by rfl, ?_⟩) ?_ ?_
                rotate_left
                ·
                 intro w'
                 go_simp
                 with_reducible rfl
                rotate_left
                ·
                 simp only [Act.put, B4, B5, B6, i64_w, i32_w]
                 rfl
                refine done_ (done_of HT_.out (by kernel_rfl)) ?_
                try go_wp2
                go_roundg k4
                case measure => have := HJ2.out; have := HK2.out; have := HK3.out; have := HK4.out; omega
                case rel => exact ⟨(wrap64 (x10_3 + 1)), (by first | rfl | (simp; done) | (simp [*]; done)), H', ⟨by have := HJ2.out; have := HK2.out; have := HK3.out; have := HK4.out; omega⟩, ⟨by (with_reducible repeat (first | apply Kd.R_alloc | apply Kd.R_drewN | apply Kd.R_drew)); exact Kd.R_mono (Kd.R_far (p := ⟨gb158, 2, none⟩) (Kd.R_far (p := ⟨gb158, 1, none⟩) (Kd.R_far (p := ⟨gb158, 0, none⟩) (Kd.R_types HO_5.out BK158.out (by decide)) (fun _ hk => hk.2) (.int .i64 t153)) (fun _ hk => hk.2) (.int .i64 t154)) (fun _ hk => hk.2) (.string t155)) (fun _ hk => trivial)⟩, ⟨by (with_reducible repeat (first | apply Kd.V_alloc | apply Kd.V_drewN | apply Kd.V_drew)); exact Kd.V_mono (Kd.V_far (p := ⟨gb158, 2, none⟩) (Kd.V_far (p := ⟨gb158, 1, none⟩) (Kd.V_far (p := ⟨gb158, 0, none⟩) (Kd.V_mono HO_137001.out (fun k_ hk => (⟨hk, hk.2.2⟩ : _ ∧ k_ ≠ gb158))) (fun _ hk => hk.2) (.int .i64 t153)) (fun _ hk => hk.2) (.int .i64 t154)) (fun _ hk => hk.2) (.string t155)) (fun _ hk => ⟨hk.1.1, hk.1.2.1⟩)⟩, ⟨by (with_reducible repeat first | refine B1 ?_ _ | refine B2 ?_ | refine B3 ?_ _); refine blk_far ?_ NB136_158.out _; (with_reducible repeat first | refine B1 ?_ _ | refine B2 ?_ | refine B3 ?_ _); refine blk_far ?_ NB136_158.out _; (with_reducible repeat first | refine B1 ?_ _ | refine B2 ?_ | refine B3 ?_ _); refine blk_far ?_ NB136_158.out _; (with_reducible repeat first | refine B1 ?_ _ | refine B2 ?_ | refine B3 ?_ _); exact BK136.out⟩, ⟨by repeat (first | (with_reducible first | exact HB.out | apply below_alloc | apply pw_below_drewN | apply below_drew1 | refine below_set ?_ GE136.out | refine below_set ?_ GE158.out) | exact HB.out)⟩⟩
              ·
               rw [if_neg c56] at H
               exact absurd H (by simp)
             ·
              rw [if_neg c55] at H
              exact absurd H (by simp)
         ·
          rw [if_neg c46] at H
          have c46b0 : decide (x10_3 < (x5_2.length : Int)) = false := decide_eq_false c46
          clear c46
          obtain rfl := Option.some.inj H
          obtain ⟨Ao93, co93, eo93⟩ := Kd.R_slice HO_5.out
          subst eo93
          have hcz94_0 : wr.cell? ⟨gb136, 0, none⟩ = some (.int .i64 x137000_2) := (blk_cell BK136.out 0).trans rfl
          have hcz94_1 : wr.cell? ⟨gb136, 1, none⟩ = some (u137001) := (blk_cell BK136.out 1).trans rfl
          have hfz94_0 := blk_frozen BK136.out 0
          have hfz94_1 := blk_frozen BK136.out 1
          obtain ⟨Ao95, co95, eo95⟩ := Kd.V_slice HO_137001.out
          subst eo95
          go_wp2
          go_ret
          exact ⟨by first | rfl | (simp [errW_none, errW_some] <;> rfl) | (simp [*, errW_none, errW_some] <;> rfl), by repeat (first | (with_reducible first | exact HB.out | apply below_alloc | apply pw_below_drewN | apply below_drew1 | refine below_set ?_ GE136.out) | exact HB.out)⟩

/-- THE ONE PURE STATEMENT of colloquylaw17_WindowRuns: yours. -/
def colloquylaw17_WindowRuns.Pure : Prop := ∀ (l0 : List Int), l0.length ≤ maxLen → l0.length * 8 ≤ 140737488351232 → (∀ x ∈ l0, (Lit.int .i64 x).wf = true) → ∃ k, colloquylaw17_WindowRuns.f k l0 = some true
theorem colloquylaw17_WindowRuns.walk (P : colloquylaw17_WindowRuns.Pure) (a0 : Option Addr) (len0 cap0 : Nat) (z0 : List Int) (w : World) (w0 : (a0 = none ∧ len0 = 0 ∧ cap0 = 0 ∧ z0 = []) ∨ ∃ x, a0 = some x ∧ len0 ≤ cap0 ∧ cap0 ≤ maxLen ∧ z0.length = cap0 ∧ (∀ i, i < z0.length → w.cell? (x.add i) = some (.int .i64 (z0.getD i 0))) ∧ ∀ n ∈ z0, (Lit.int .i64 n).wf = true) (y0 : len0 * 8 ≤ 140737488351232) :
 Calls Try.prog 5 #[.slice a0 len0 cap0] w fun e w' => e = .returned (.bool true) ∧ Below w.heap.size w w' := by
 obtain ⟨l0, rfl, hr0, hm0, hw0, hc0⟩ := ReadsInt.ofRowC w0
 obtain ⟨k, h⟩ := P l0 hm0 y0 hw0
 refine (colloquylaw17_WindowRuns.calls k _ _ l0 true w (Kd.C_of_reads (d := (0 : Int)) (h1 := fun _ => rfl) hr0) hc0 h).mono ?_
 rintro e w' ⟨rfl, hd⟩
 exact ⟨rfl, hd⟩

end Go.Proofs.Ytipmodlmmadfbaa.PWindowRuns
