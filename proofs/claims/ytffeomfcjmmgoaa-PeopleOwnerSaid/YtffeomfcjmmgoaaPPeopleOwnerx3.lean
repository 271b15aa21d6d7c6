-- Printed by a program of this session (xprint.py), which runs the kit's print and takes some contracts from texts of this session.
import Derived.Test.YtffeomfcjmmgoaaPPeopleOwnerx0
import Derived.Test.YtffeomfcjmmgoaaPPeopleOwnerx1
import Derived.Test.YtffeomfcjmmgoaaPPeopleOwnerx2
namespace Go.Proofs.Ytffeomfcjmmgoaa.PPeopleOwner
open Go.RowKit Go.Proofs.YtffeomfcjmmgoaaW.PrintWords Go.Proofs.YtffeomfcjmmgoaaW.PrintLast Go.Proofs.YtffeomfcjmmgoaaW.PrintMore
attribute [local go_sem] max2_int min2_int max_two min_two max_three min_three max_four min_four   -- for this text's walks alone
set_option linter.unusedVariables false
set_option linter.unusedSimpArgs false

/-! ### colloquylaw15_PeopleOwner: function 4 -/
mutual
def colloquylaw15_PeopleOwner.j0 : Nat → Int → Int → List Int → Bool → Bool → Int → Int → List Int → Option (Bool)
  | 0, _, _, _, _, _, _, _, _ => none
  | k + 1, x0, x1, x2, x7, x30, x147000, x147001, x147002 => if x30 = true then (some x7) else (colloquylaw15_PeopleOwner.l0 k x0 x1 x2 0 x147000 x147001 x147002)
def colloquylaw15_PeopleOwner.l0 : Nat → Int → Int → List Int → Int → Int → Int → List Int → Option (Bool)
  | 0, _, _, _, _, _, _, _ => none
  | k + 1, x0, x1, x2, x10, x147000, x147001, x147002 => if x10 < (x2.length : Int) then (if 0 ≤ x10 then ((people_Join.f k x147000 x147001 x147002 (rd x2 x10)).bind fun bt148 => (if (rd x2 x10) < 0 then ((people_Leave.f k x147000 x147001 x147002 (wrap64 (-(rd x2 x10)))).bind fun bt157 => (colloquylaw15_PeopleOwner.j2 k x0 x1 x2 x10 bt157.2.2.2 x147000 x147001 x147002 bt157.1 bt157.2.1 bt157.2.2.1)) else (colloquylaw15_PeopleOwner.j2 k x0 x1 x2 x10 bt148.2.2.2 x147000 x147001 x147002 bt148.1 bt148.2.1 bt148.2.2.1))) else (none)) else (some true)
def colloquylaw15_PeopleOwner.j2 : Nat → Int → Int → List Int → Int → Int → Int → Int → List Int → Int → Int → List Int → Option (Bool)
  | 0, _, _, _, _, _, _, _, _, _, _, _ => none
  | k + 1, x0, x1, x2, x10, x12, x147000, x147001, x147002, x155000, x155001, x155002 => if x12 = 0 then (colloquylaw15_PeopleOwner.j3 k x0 x1 x2 x10 x155000 x155001 x155002) else (colloquylaw15_PeopleOwner.j3 k x0 x1 x2 x10 x147000 x147001 x147002)
def colloquylaw15_PeopleOwner.j3 : Nat → Int → Int → List Int → Int → Int → Int → List Int → Option (Bool)
  | 0, _, _, _, _, _, _, _ => none
  | k + 1, x0, x1, x2, x10, x147000, x147001, x147002 => (people_May.f k x147000 x147001 x147002).bind fun t163 => (if t163 = true then ((people_In.f k x147000 x147001 x147002 x1).bind fun t164 => (if t164 = true then (if x147001 = x1 then (if x147000 = x0 then (colloquylaw15_PeopleOwner.l0 k x0 x1 x2 (wrap64 (x10 + 1)) x147000 x147001 x147002) else (some false)) else (some false)) else (some false))) else (some false))
end
def colloquylaw15_PeopleOwner.f (k : Nat) (a0 : Int) (a1 : Int) (l2 : List Int) : Option (Bool) := (colloquylaw15_Awake.f).bind fun t139 => ((people_Open.f k a0 a1).bind fun bt140 => (if t139 = true then (if bt140.2.2.2 = 0 then (colloquylaw15_PeopleOwner.j0 k a0 a1 l2 t139 (decide ((l2.length : Int) > 100)) bt140.1 bt140.2.1 bt140.2.2.1) else (colloquylaw15_PeopleOwner.j0 k a0 a1 l2 t139 true bt140.1 bt140.2.1 bt140.2.2.1)) else (colloquylaw15_PeopleOwner.j0 k a0 a1 l2 t139 true bt140.1 bt140.2.1 bt140.2.2.1)))
theorem colloquylaw15_PeopleOwner.mono_l : ∀ k, (∀ y0 y1 y2 y3 y4 y5 y6 y7, LeO (colloquylaw15_PeopleOwner.j0 k y0 y1 y2 y3 y4 y5 y6 y7) (colloquylaw15_PeopleOwner.j0 (k + 1) y0 y1 y2 y3 y4 y5 y6 y7)) ∧ (∀ y0 y1 y2 y3 y4 y5 y6, LeO (colloquylaw15_PeopleOwner.l0 k y0 y1 y2 y3 y4 y5 y6) (colloquylaw15_PeopleOwner.l0 (k + 1) y0 y1 y2 y3 y4 y5 y6)) ∧ (∀ y0 y1 y2 y3 y4 y5 y6 y7 y8 y9 y10, LeO (colloquylaw15_PeopleOwner.j2 k y0 y1 y2 y3 y4 y5 y6 y7 y8 y9 y10) (colloquylaw15_PeopleOwner.j2 (k + 1) y0 y1 y2 y3 y4 y5 y6 y7 y8 y9 y10)) ∧ (∀ y0 y1 y2 y3 y4 y5 y6, LeO (colloquylaw15_PeopleOwner.j3 k y0 y1 y2 y3 y4 y5 y6) (colloquylaw15_PeopleOwner.j3 (k + 1) y0 y1 y2 y3 y4 y5 y6))
  | 0 => ⟨fun _ _ _ _ _ _ _ _ r h => by simp [colloquylaw15_PeopleOwner.j0] at h, fun _ _ _ _ _ _ _ r h => by simp [colloquylaw15_PeopleOwner.l0] at h, fun _ _ _ _ _ _ _ _ _ _ _ r h => by simp [colloquylaw15_PeopleOwner.j2] at h, fun _ _ _ _ _ _ _ r h => by simp [colloquylaw15_PeopleOwner.j3] at h⟩
  | k + 1 => by
    obtain ⟨ih0, ih1, ih2, ih3⟩ := colloquylaw15_PeopleOwner.mono_l k
    refine ⟨?_, ?_, ?_, ?_⟩
    · intro y0 y1 y2 y3 y4 y5 y6 y7
      unfold colloquylaw15_PeopleOwner.j0
      repeat' first
      | (with_reducible exact ih0 _ _ _ _ _ _ _ _)
      | (with_reducible exact ih1 _ _ _ _ _ _ _)
      | (with_reducible exact ih2 _ _ _ _ _ _ _ _ _ _ _)
      | (with_reducible exact ih3 _ _ _ _ _ _ _)
      | (with_reducible exact people_In.mono _ _ _ _ _)
      | (with_reducible exact people_Join.mono _ _ _ _ _)
      | (with_reducible exact people_Leave.mono _ _ _ _ _)
      | (with_reducible exact people_May.mono _ _ _ _)
      | (with_reducible exact people_Open.mono _ _ _)
      | (with_reducible exact LeO.refl _)
      | (with_reducible exact LeO.none _)
      | (with_reducible refine LeO.ite ?_ ?_)
      | (with_reducible refine LeO.bind ?_ (fun _ => ?_))
      | exact ih0 _ _ _ _ _ _ _ _
      | exact ih1 _ _ _ _ _ _ _
      | exact ih2 _ _ _ _ _ _ _ _ _ _ _
      | exact ih3 _ _ _ _ _ _ _
      | exact people_In.mono _ _ _ _ _
      | exact people_Join.mono _ _ _ _ _
      | exact people_Leave.mono _ _ _ _ _
      | exact people_May.mono _ _ _ _
      | exact people_Open.mono _ _ _
      | exact LeO.none _
      | refine LeO.ite ?_ ?_
      | refine LeO.bind ?_ (fun _ => ?_)
    · intro y0 y1 y2 y3 y4 y5 y6
      unfold colloquylaw15_PeopleOwner.l0
      repeat' first
      | (with_reducible exact ih0 _ _ _ _ _ _ _ _)
      | (with_reducible exact ih1 _ _ _ _ _ _ _)
      | (with_reducible exact ih2 _ _ _ _ _ _ _ _ _ _ _)
      | (with_reducible exact ih3 _ _ _ _ _ _ _)
      | (with_reducible exact people_In.mono _ _ _ _ _)
      | (with_reducible exact people_Join.mono _ _ _ _ _)
      | (with_reducible exact people_Leave.mono _ _ _ _ _)
      | (with_reducible exact people_May.mono _ _ _ _)
      | (with_reducible exact people_Open.mono _ _ _)
      | (with_reducible exact LeO.refl _)
      | (with_reducible exact LeO.none _)
      | (with_reducible refine LeO.ite ?_ ?_)
      | (with_reducible refine LeO.bind ?_ (fun _ => ?_))
      | exact ih0 _ _ _ _ _ _ _ _
      | exact ih1 _ _ _ _ _ _ _
      | exact ih2 _ _ _ _ _ _ _ _ _ _ _
      | exact ih3 _ _ _ _ _ _ _
      | exact people_In.mono _ _ _ _ _
      | exact people_Join.mono _ _ _ _ _
      | exact people_Leave.mono _ _ _ _ _
      | exact people_May.mono _ _ _ _
      | exact people_Open.mono _ _ _
      | exact LeO.none _
      | refine LeO.ite ?_ ?_
      | refine LeO.bind ?_ (fun _ => ?_)
    · intro y0 y1 y2 y3 y4 y5 y6 y7 y8 y9 y10
      unfold colloquylaw15_PeopleOwner.j2
      repeat' first
      | (with_reducible exact ih0 _ _ _ _ _ _ _ _)
      | (with_reducible exact ih1 _ _ _ _ _ _ _)
      | (with_reducible exact ih2 _ _ _ _ _ _ _ _ _ _ _)
      | (with_reducible exact ih3 _ _ _ _ _ _ _)
      | (with_reducible exact people_In.mono _ _ _ _ _)
      | (with_reducible exact people_Join.mono _ _ _ _ _)
      | (with_reducible exact people_Leave.mono _ _ _ _ _)
      | (with_reducible exact people_May.mono _ _ _ _)
      | (with_reducible exact people_Open.mono _ _ _)
      | (with_reducible exact LeO.refl _)
      | (with_reducible exact LeO.none _)
      | (with_reducible refine LeO.ite ?_ ?_)
      | (with_reducible refine LeO.bind ?_ (fun _ => ?_))
      | exact ih0 _ _ _ _ _ _ _ _
      | exact ih1 _ _ _ _ _ _ _
      | exact ih2 _ _ _ _ _ _ _ _ _ _ _
      | exact ih3 _ _ _ _ _ _ _
      | exact people_In.mono _ _ _ _ _
      | exact people_Join.mono _ _ _ _ _
      | exact people_Leave.mono _ _ _ _ _
      | exact people_May.mono _ _ _ _
      | exact people_Open.mono _ _ _
      | exact LeO.none _
      | refine LeO.ite ?_ ?_
      | refine LeO.bind ?_ (fun _ => ?_)
    · intro y0 y1 y2 y3 y4 y5 y6
      unfold colloquylaw15_PeopleOwner.j3
      repeat' first
      | (with_reducible exact ih0 _ _ _ _ _ _ _ _)
      | (with_reducible exact ih1 _ _ _ _ _ _ _)
      | (with_reducible exact ih2 _ _ _ _ _ _ _ _ _ _ _)
      | (with_reducible exact ih3 _ _ _ _ _ _ _)
      | (with_reducible exact people_In.mono _ _ _ _ _)
      | (with_reducible exact people_Join.mono _ _ _ _ _)
      | (with_reducible exact people_Leave.mono _ _ _ _ _)
      | (with_reducible exact people_May.mono _ _ _ _)
      | (with_reducible exact people_Open.mono _ _ _)
      | (with_reducible exact LeO.refl _)
      | (with_reducible exact LeO.none _)
      | (with_reducible refine LeO.ite ?_ ?_)
      | (with_reducible refine LeO.bind ?_ (fun _ => ?_))
      | exact ih0 _ _ _ _ _ _ _ _
      | exact ih1 _ _ _ _ _ _ _
      | exact ih2 _ _ _ _ _ _ _ _ _ _ _
      | exact ih3 _ _ _ _ _ _ _
      | exact people_In.mono _ _ _ _ _
      | exact people_Join.mono _ _ _ _ _
      | exact people_Leave.mono _ _ _ _ _
      | exact people_May.mono _ _ _ _
      | exact people_Open.mono _ _ _
      | exact LeO.none _
      | refine LeO.ite ?_ ?_
      | refine LeO.bind ?_ (fun _ => ?_)
theorem colloquylaw15_PeopleOwner.mono : ∀ a0 a1 a2 k, LeO (colloquylaw15_PeopleOwner.f k a0 a1 a2) (colloquylaw15_PeopleOwner.f (k + 1) a0 a1 a2) := by
  intro a0 a1 a2 k
  obtain ⟨ih0, ih1, ih2, ih3⟩ := colloquylaw15_PeopleOwner.mono_l k
  unfold colloquylaw15_PeopleOwner.f
  repeat' first
      | (with_reducible exact ih0 _ _ _ _ _ _ _ _)
      | (with_reducible exact ih1 _ _ _ _ _ _ _)
      | (with_reducible exact ih2 _ _ _ _ _ _ _ _ _ _ _)
      | (with_reducible exact ih3 _ _ _ _ _ _ _)
      | (with_reducible exact people_In.mono _ _ _ _ _)
      | (with_reducible exact people_Join.mono _ _ _ _ _)
      | (with_reducible exact people_Leave.mono _ _ _ _ _)
      | (with_reducible exact people_May.mono _ _ _ _)
      | (with_reducible exact people_Open.mono _ _ _)
      | (with_reducible exact LeO.refl _)
      | (with_reducible exact LeO.none _)
      | (with_reducible refine LeO.ite ?_ ?_)
      | (with_reducible refine LeO.bind ?_ (fun _ => ?_))
      | exact ih0 _ _ _ _ _ _ _ _
      | exact ih1 _ _ _ _ _ _ _
      | exact ih2 _ _ _ _ _ _ _ _ _ _ _
      | exact ih3 _ _ _ _ _ _ _
      | exact people_In.mono _ _ _ _ _
      | exact people_Join.mono _ _ _ _ _
      | exact people_Leave.mono _ _ _ _ _
      | exact people_May.mono _ _ _ _
      | exact people_Open.mono _ _ _
      | exact LeO.none _
      | refine LeO.ite ?_ ?_
      | refine LeO.bind ?_ (fun _ => ?_)
def colloquylaw15_PeopleOwner.T8 : Bool × List (List Nat × List Nat) := (true, [([], []), ([], []), ([], []), ([1, 2], [1, 2]), ([3], [3]), ([0, 4], [0, 4]), ([5], [5]), ([6], [6]), ([6], [6]), ([], []), ([9, 7, 5, 0, 1, 2, 3, 4, 5, 6, 7, 9], [7, 9]), ([8, 10, 0, 1, 2, 3, 4, 5, 6, 7, 8, 9, 10], [8])])
def colloquylaw15_PeopleOwner.B8 : List Nat := [0, 0, 0, 6, 14, 31, 63, 127, 127, 0, 767, 2047]
theorem colloquylaw15_PeopleOwner.tab8 : rtab .any (opsOf Try.f4 8) = colloquylaw15_PeopleOwner.T8 := by kernel_rfl
theorem colloquylaw15_PeopleOwner.bits8 : waitsOk colloquylaw15_PeopleOwner.T8.2 colloquylaw15_PeopleOwner.B8 = true := by kernel_rfl
def colloquylaw15_PeopleOwner.T10 : Bool × List (List Nat × List Nat) := (true, [([], []), ([], []), ([], []), ([1, 2], [1, 2]), ([3], [3]), ([4], [4]), ([0, 5], [0, 5]), ([6], [6]), ([7], [7]), ([7], [7]), ([8, 6, 0, 1, 2, 3, 4, 5, 6, 7, 8], [8]), ([9, 10, 0, 1, 2, 3, 4, 5, 6, 7, 8, 9, 10], [9])])
def colloquylaw15_PeopleOwner.B10 : List Nat := [0, 0, 0, 6, 14, 30, 63, 127, 255, 255, 511, 2047]
theorem colloquylaw15_PeopleOwner.tab10 : rtab .any (opsOf Try.f4 10) = colloquylaw15_PeopleOwner.T10 := by kernel_rfl
theorem colloquylaw15_PeopleOwner.bits10 : waitsOk colloquylaw15_PeopleOwner.T10.2 colloquylaw15_PeopleOwner.B10 = true := by kernel_rfl
set_option maxHeartbeats 8000000 in
set_option maxRecDepth 100000 in
theorem colloquylaw15_PeopleOwner.calls (k : Nat) (a0 : Int) (a1 : Int) (A2 : Option Addr) (c2 : Nat) (l2 : List Int) (r : Bool) (w : World) (hr2 : Kd.C (Kd.int .i64) w A2 l2.length l2) (hc2 : l2.length ≤ c2) (h : colloquylaw15_PeopleOwner.f k a0 a1 l2 = some r) :
    Calls Try.prog 4 #[.int .i64 a0, .int .i64 a1, .slice A2 l2.length c2] w fun e w' => e = .returned (.bool r) ∧ Below w.heap.size w w' := by
  have hu24 := Try.underlying24
  have HR2 := Aside0.mk hr2
  have HC2 := Aside0.mk hc2
  clear hr2 hc2
  have HB := Aside0.mk (Below.refl w.heap.size w)
  have H : ((colloquylaw15_Awake.f).bind fun t139 => ((people_Open.f k a0 a1).bind fun bt140 => (if t139 = true then (if bt140.2.2.2 = 0 then (colloquylaw15_PeopleOwner.j0 k a0 a1 l2 t139 (decide ((l2.length : Int) > 100)) bt140.1 bt140.2.1 bt140.2.2.1) else (colloquylaw15_PeopleOwner.j0 k a0 a1 l2 t139 true bt140.1 bt140.2.1 bt140.2.2.1)) else (colloquylaw15_PeopleOwner.j0 k a0 a1 l2 t139 true bt140.1 bt140.2.1 bt140.2.2.1)))) = some r := h
  clear h
  replace H := Option.bind_eq_some_iff.mp H
  obtain ⟨t139, A40, H⟩ := H
  replace H : ((people_Open.f k a0 a1).bind fun bt140 => (if t139 = true then (if bt140.2.2.2 = 0 then (colloquylaw15_PeopleOwner.j0 k a0 a1 l2 t139 (decide ((l2.length : Int) > 100)) bt140.1 bt140.2.1 bt140.2.2.1) else (colloquylaw15_PeopleOwner.j0 k a0 a1 l2 t139 true bt140.1 bt140.2.1 bt140.2.2.1)) else (colloquylaw15_PeopleOwner.j0 k a0 a1 l2 t139 true bt140.1 bt140.2.1 bt140.2.2.1))) = some r := H
  have A4 := Aside0.mk A40
  clear A40
  replace H := Option.bind_eq_some_iff.mp H
  obtain ⟨⟨t140, t141, t142, t145⟩, A50, H⟩ := H
  replace H : (if t139 = true then (if t145 = 0 then (colloquylaw15_PeopleOwner.j0 k a0 a1 l2 t139 (decide ((l2.length : Int) > 100)) t140 t141 t142) else (colloquylaw15_PeopleOwner.j0 k a0 a1 l2 t139 true t140 t141 t142)) else (colloquylaw15_PeopleOwner.j0 k a0 a1 l2 t139 true t140 t141 t142)) = some r := H
  have A5 := Aside0.mk A50
  clear A50
  have HC6 := Aside0.mk H
  clear H
  go_enter Try.func4, Try.ntmps4
  go_upto_region 3 with (first | ((with_reducible refine gate_callee (f := 8) rfl ?_); refine goesL_ (some 13) rfl rfl Try.func8 (by kernel_rfl) rfl #[] rfl (by (try simp only [List.map_toArray, List.map_cons, List.map_nil]); first | done | rfl | (simp only [List.length_drop, List.length_take]; rfl)) ?_; (with_reducible refine (colloquylaw15_Awake.calls  t139 _ A4.out).mono ?_); rintro e w7 ⟨rfl, hb⟩; refine ⟨_, rfl, ?_⟩; have n0_ := Aside0.mk (below_step (by repeat (first | (with_reducible first | exact HB.out | apply below_alloc | apply pw_below_drewN | apply below_drew1) | exact HB.out)) hb); clear HB; have HB := n0_; clear n0_; (try clear hb); (try clear hb2); (try clear hk); (try clear hi)) | ((with_reducible refine gate_callee (f := 13) rfl ?_); refine goesL_ (some 17) rfl rfl Try.func13 (by kernel_rfl) rfl #[.int .i64 a0, .int .i64 a1] rfl (by (try simp only [List.map_toArray, List.map_cons, List.map_nil]); first | done | rfl | (simp only [List.length_drop, List.length_take]; rfl)) ?_; (with_reducible refine (people_Open.calls k a0 a1 t140 t141 t142 t145 _ A5.out).mono ?_); rintro e w8 ⟨v143, rfl, ho0, hb⟩; refine ⟨_, rfl, ?_⟩; have n0_ := Aside0.mk (Kd.R_lower ho0 (below_size (by repeat (first | (with_reducible first | exact HB.out | apply below_alloc | apply pw_below_drewN | apply below_drew1) | exact HB.out)))); have n1_ := Aside0.mk (below_step (by repeat (first | (with_reducible first | exact HB.out | apply below_alloc | apply pw_below_drewN | apply below_drew1) | exact HB.out)) hb); clear HB; have HO144 := n0_; have HB := n1_; clear n0_ n1_; (try clear hb); (try clear hb2); (try clear hk); (try clear hi); (try clear ho0)) | ((with_reducible refine gate_dst (N := 8) rfl ?_); (try (refine gate_guard (by rfl) ?_; dsimp only)); refine box_event ?hg (N := 8) ?hd (cs := #[.int .i64 0, .int .i64 0, .slice none 0 0]) (t := 24) ?hr ?_; (case hd => rfl); (case hg => rfl); (case hr => first | (go_simp; done) | (go_simp; rfl)); intro gb146 hg w9 hbox hb; have n0_ := Aside0.mk (Kd.R_below (by (with_reducible repeat (first | apply Kd.R_alloc | apply Kd.R_drewN | apply Kd.R_drew)); exact HO144.out) hb); have n1_ := Aside0.mk (below_step (by repeat (first | (with_reducible first | exact HB.out | apply below_alloc | apply pw_below_drewN | apply below_drew1) | exact HB.out)) hb); have n2_ := Aside0.mk (hbox); have n3_ := Aside0.mk ((by rw [hg]; exact (below_size (by repeat (first | (with_reducible first | exact HB.out | apply below_alloc | apply pw_below_drewN | apply below_drew1) | exact HB.out))) : w.heap.size ≤ gb146)); have n4_ := Aside0.mk ((by rw [hg]; exact (below_size (by repeat (first | (with_reducible first | exact HB.out | apply below_alloc | apply pw_below_drewN | apply below_drew1) | exact HB.out))) : w.heap.size ≤ gb146)); clear HO144; clear HB; have HO144 := n0_; have HB := n1_; have BK146 := n2_; have GW146 := n3_; have GE146 := n4_; clear n0_ n1_ n2_ n3_ n4_; clear hb hbox hg; have hcz10_0 : w9.cell? ⟨gb146, 0, none⟩ = some (.int .i64 0) := (blk_cell BK146.out 0).trans rfl; have hcz10_1 : w9.cell? ⟨gb146, 1, none⟩ = some (.int .i64 0) := (blk_cell BK146.out 1).trans rfl; have hcz10_2 : w9.cell? ⟨gb146, 2, none⟩ = some (.slice none 0 0) := (blk_cell BK146.out 2).trans rfl; have hfz10_0 := blk_frozen BK146.out 0; have hfz10_1 := blk_frozen BK146.out 1; have hfz10_2 := blk_frozen BK146.out 2; obtain ⟨Ao11, co11, eo11⟩ := Kd.R_slice HO144.out; subst eo11))
  (try simp only [Act.put, List.setIfInBounds_toArray, List.set_cons_zero, List.set_cons_succ])
  go_cut [30] (fun v30 wc => ∃ (kq : Nat) (x30_5 : Bool), v30 = .bool x30_5 ∧ Aside0 (colloquylaw15_PeopleOwner.j0 kq a0 a1 l2 t139 x30_5 t140 t141 t142 = some r) ∧ Aside0 (kq ≤ k) ∧ Aside0 (Kd.R (Kd.int .i64) 3 wc w.heap.size (fun _ => True) (.slice Ao11 t142.length co11) t142) ∧ Aside0 (wc.heap[gb146]? = some (.cells #[.int .i64 t140, .int .i64 t141, (.slice Ao11 t142.length co11)] 24 (0, 0))) ∧ Aside0 (Below w.heap.size w wc))
  case first =>
    have H := HC6.out
    clear HC6
    by_cases c12 : t139 = true
    · subst c12
      have H1 : (if t145 = 0 then (colloquylaw15_PeopleOwner.j0 k a0 a1 l2 true (decide ((l2.length : Int) > 100)) t140 t141 t142) else (colloquylaw15_PeopleOwner.j0 k a0 a1 l2 true true t140 t141 t142)) = some r := by rw [if_pos rfl] at H; exact H
      clear H
      have H := H1
      clear H1
      by_cases c13 : t145 = 0
      · rw [if_pos c13] at H
        have c13b0 : (t145 == 0) = true := beq_iff_eq.mpr c13
        have c13b1 : (t145 != 0) = false := bne_eq_false_iff_eq.mpr c13
        clear c13
        (first | rw [c13b0] | (simp only [i64_w, i32_w]; rw [c13b0]) | skip)
        have H' := Aside0.mk H
        clear H
        go_wp2
        go_meet
        case rel => exact ⟨_, (decide ((l2.length : Int) > 100)), (by first | rfl | (simp; done) | (simp [*]; done)), H', ⟨by first | omega | exact Nat.le_refl _⟩, ⟨by (with_reducible repeat (first | apply Kd.R_alloc | apply Kd.R_drewN | apply Kd.R_drew)); exact Kd.R_mono (Kd.R_far (p := ⟨gb146, 2, none⟩) (Kd.R_far (p := ⟨gb146, 1, none⟩) (Kd.R_far (p := ⟨gb146, 0, none⟩) (Kd.R_types HO144.out BK146.out (by decide)) (fun _ hk => hk.2) (.int .i64 t140)) (fun _ hk => hk.2) (.int .i64 t141)) (fun _ hk => hk.2) (.slice Ao11 t142.length co11)) (fun _ hk => trivial)⟩, ⟨by (with_reducible repeat (first | refine blk_drewN ?_ _ | refine blk_drew ?_ | refine blk_alloc ?_ _)); refine blk_put (cs := #[.int .i64 t140, .int .i64 t141, .slice none 0 0]) ?_ 2 _ rfl; (with_reducible repeat (first | refine blk_drewN ?_ _ | refine blk_drew ?_ | refine blk_alloc ?_ _)); refine blk_put (cs := #[.int .i64 t140, .int .i64 0, .slice none 0 0]) ?_ 1 _ rfl; (with_reducible repeat (first | refine blk_drewN ?_ _ | refine blk_drew ?_ | refine blk_alloc ?_ _)); refine blk_put (cs := #[.int .i64 0, .int .i64 0, .slice none 0 0]) ?_ 0 _ rfl; (with_reducible repeat (first | refine blk_drewN ?_ _ | refine blk_drew ?_ | refine blk_alloc ?_ _)); exact BK146.out⟩, ⟨by repeat (first | (with_reducible first | exact HB.out | apply below_alloc | apply pw_below_drewN | apply below_drew1 | refine below_set ?_ GE146.out) | exact HB.out)⟩⟩
      · rw [if_neg c13] at H
        have c13b0 : (t145 == 0) = false := beq_eq_false_iff_ne.mpr c13
        have c13b1 : (t145 != 0) = true := bne_iff_ne.mpr c13
        (first | rw [c13b0] | (simp only [i64_w, i32_w]; rw [c13b0]) | skip)
        have H' := Aside0.mk H
        clear H
        go_wp2
        go_meet
        case rel => exact ⟨_, (true), (by first | rfl | (simp; done) | (simp [*]; done)), H', ⟨by first | omega | exact Nat.le_refl _⟩, ⟨by (with_reducible repeat (first | apply Kd.R_alloc | apply Kd.R_drewN | apply Kd.R_drew)); exact Kd.R_mono (Kd.R_far (p := ⟨gb146, 2, none⟩) (Kd.R_far (p := ⟨gb146, 1, none⟩) (Kd.R_far (p := ⟨gb146, 0, none⟩) (Kd.R_types HO144.out BK146.out (by decide)) (fun _ hk => hk.2) (.int .i64 t140)) (fun _ hk => hk.2) (.int .i64 t141)) (fun _ hk => hk.2) (.slice Ao11 t142.length co11)) (fun _ hk => trivial)⟩, ⟨by (with_reducible repeat (first | refine blk_drewN ?_ _ | refine blk_drew ?_ | refine blk_alloc ?_ _)); refine blk_put (cs := #[.int .i64 t140, .int .i64 t141, .slice none 0 0]) ?_ 2 _ rfl; (with_reducible repeat (first | refine blk_drewN ?_ _ | refine blk_drew ?_ | refine blk_alloc ?_ _)); refine blk_put (cs := #[.int .i64 t140, .int .i64 0, .slice none 0 0]) ?_ 1 _ rfl; (with_reducible repeat (first | refine blk_drewN ?_ _ | refine blk_drew ?_ | refine blk_alloc ?_ _)); refine blk_put (cs := #[.int .i64 0, .int .i64 0, .slice none 0 0]) ?_ 0 _ rfl; (with_reducible repeat (first | refine blk_drewN ?_ _ | refine blk_drew ?_ | refine blk_alloc ?_ _)); exact BK146.out⟩, ⟨by repeat (first | (with_reducible first | exact HB.out | apply below_alloc | apply pw_below_drewN | apply below_drew1 | refine below_set ?_ GE146.out) | exact HB.out)⟩⟩
    · replace c12 := Bool.eq_false_iff.mpr c12
      subst c12
      have H1 : (colloquylaw15_PeopleOwner.j0 k a0 a1 l2 false true t140 t141 t142) = some r := by rw [if_neg (show ¬ (false = true) by decide)] at H; exact H
      clear H
      have H := H1
      clear H1
      have H' := Aside0.mk H
      clear H
      go_wp2
      go_meet
      case rel => exact ⟨_, (true), (by first | rfl | (simp; done) | (simp [*]; done)), H', ⟨by first | omega | exact Nat.le_refl _⟩, ⟨by (with_reducible repeat (first | apply Kd.R_alloc | apply Kd.R_drewN | apply Kd.R_drew)); exact Kd.R_mono (Kd.R_far (p := ⟨gb146, 2, none⟩) (Kd.R_far (p := ⟨gb146, 1, none⟩) (Kd.R_far (p := ⟨gb146, 0, none⟩) (Kd.R_types HO144.out BK146.out (by decide)) (fun _ hk => hk.2) (.int .i64 t140)) (fun _ hk => hk.2) (.int .i64 t141)) (fun _ hk => hk.2) (.slice Ao11 t142.length co11)) (fun _ hk => trivial)⟩, ⟨by (with_reducible repeat (first | refine blk_drewN ?_ _ | refine blk_drew ?_ | refine blk_alloc ?_ _)); refine blk_put (cs := #[.int .i64 t140, .int .i64 t141, .slice none 0 0]) ?_ 2 _ rfl; (with_reducible repeat (first | refine blk_drewN ?_ _ | refine blk_drew ?_ | refine blk_alloc ?_ _)); refine blk_put (cs := #[.int .i64 t140, .int .i64 0, .slice none 0 0]) ?_ 1 _ rfl; (with_reducible repeat (first | refine blk_drewN ?_ _ | refine blk_drew ?_ | refine blk_alloc ?_ _)); refine blk_put (cs := #[.int .i64 0, .int .i64 0, .slice none 0 0]) ?_ 0 _ rfl; (with_reducible repeat (first | refine blk_drewN ?_ _ | refine blk_drew ?_ | refine blk_alloc ?_ _)); exact BK146.out⟩, ⟨by repeat (first | (with_reducible first | exact HB.out | apply below_alloc | apply pw_below_drewN | apply below_drew1 | refine below_set ?_ GE146.out) | exact HB.out)⟩⟩
  case rest =>
    clear HC6
    try clear c1
    try clear c2
    try clear p2
    try clear c4
    try clear c8
    try clear c12
    try clear c13
    try clear c13b0
    try clear c13b1
    try clear hcz10_0
    try clear hcz10_1
    try clear hcz10_2
    try clear hfz10_0
    try clear hfz10_1
    try clear hfz10_2
    obtain ⟨kq, x30_5, rfl, HA, HJ5, HO_147002, BK146, HB⟩ := hcut
    cases kq with
    | zero => exact absurd HA.out (by simp [colloquylaw15_PeopleOwner.j0])
    | succ kj5 =>
      have H := HA.out
      clear HA
      simp only [colloquylaw15_PeopleOwner.j0] at H
      by_cases c14 : x30_5 = true
      · subst c14
        have H1 : (some t139) = some r := by rw [if_pos rfl] at H; exact H
        clear H
        have H := H1
        clear H1
        obtain rfl := Option.some.inj H
        go_wp2
        go_ret
        exact ⟨by first | rfl | (simp [errW_none, errW_some] <;> rfl) | (simp [*, errW_none, errW_some] <;> rfl), by repeat (first | (with_reducible first | exact HB.out | apply below_alloc | apply pw_below_drewN | apply below_drew1 | refine below_set ?_ GE146.out) | exact HB.out)⟩
      · replace c14 := Bool.eq_false_iff.mpr c14
        subst c14
        have H1 : (colloquylaw15_PeopleOwner.l0 kj5 a0 a1 l2 0 t140 t141 t142) = some r := by rw [if_neg (show ¬ (false = true) by decide)] at H; exact H
        clear H
        have H := H1
        clear H1
        have H' := Aside0.mk H
        clear H
        go_wp2
        go_loopg [10] kj5 (fun kq v10 w' => ∃ (x10_2 : Int) (x147000_2 : Int) (x147001_2 : Int) (x147002_2 : List Int) (u147002 : Value), v10 = .int .i64 x10_2 ∧ Aside0 (colloquylaw15_PeopleOwner.l0 kq a0 a1 l2 x10_2 x147000_2 x147001_2 x147002_2 = some r) ∧ Aside0 (kq ≤ kj5) ∧ Aside0 (Kd.V (Kd.int .i64) 3 w' w.heap.size (fun k_ => k_ ≠ gb146) u147002 x147002_2) ∧ Aside0 (w'.heap[gb146]? = some (.cells #[.int .i64 x147000_2, .int .i64 x147001_2, u147002] 24 (0, 0))) ∧ Aside0 (Below w.heap.size w w'))
        case atStart => exact ⟨(0), (t140), (t141), (t142), (.slice Ao11 t142.length co11), (by first | rfl | (simp; done) | (simp [*]; done)), H', ⟨Nat.le_refl _⟩, ⟨Kd.R_V (by (with_reducible repeat (first | apply Kd.R_alloc | apply Kd.R_drewN | apply Kd.R_drew)); exact Kd.R_mono (Kd.R_types HO_147002.out BK146.out (by decide)) (fun _ hk => hk.2))⟩, ⟨by (with_reducible repeat (first | refine blk_drewN ?_ _ | refine blk_drew ?_ | refine blk_alloc ?_ _)); exact BK146.out⟩, ⟨by repeat (first | (with_reducible first | exact HB.out | apply below_alloc | apply pw_below_drewN | apply below_drew1 | refine below_set ?_ GE146.out) | exact HB.out)⟩⟩
        case round =>
          clear H'
          try clear c1
          try clear c2
          try clear p2
          try clear c4
          try clear c8
          try clear c12
          try clear c13
          try clear c13b0
          try clear c13b1
          try clear c14
          try clear hcz10_0
          try clear hcz10_1
          try clear hcz10_2
          try clear hfz10_0
          try clear hfz10_1
          try clear hfz10_2
          try clear p2
          obtain ⟨x10_2, x147000_2, x147001_2, x147002_2, u147002, rfl, HA, HK2, HO_147002, BK146, HB⟩ := hrel
          cases gk with
          | zero => exact absurd HA.out (by simp [colloquylaw15_PeopleOwner.l0])
          | succ k2 =>
            have H := HA.out
            clear HA
            simp only [colloquylaw15_PeopleOwner.l0] at H
            by_cases c15 : x10_2 < (l2.length : Int)
            · rw [if_pos c15] at H
              have c15b0 : decide (x10_2 < (l2.length : Int)) = true := decide_eq_true c15
              clear c15
              by_cases c16 : 0 ≤ x10_2
              · rw [if_pos c16] at H
                have c16b0 : decide (0 ≤ x10_2) = true := decide_eq_true c16
                clear c16
                replace H := Option.bind_eq_some_iff.mp H
                obtain ⟨⟨t148, t149, t150, t153⟩, A170, H⟩ := H
                replace H : (if (rd l2 x10_2) < 0 then ((people_Leave.f k2 x147000_2 x147001_2 x147002_2 (wrap64 (-(rd l2 x10_2)))).bind fun bt157 => (colloquylaw15_PeopleOwner.j2 k2 a0 a1 l2 x10_2 bt157.2.2.2 x147000_2 x147001_2 x147002_2 bt157.1 bt157.2.1 bt157.2.2.1)) else (colloquylaw15_PeopleOwner.j2 k2 a0 a1 l2 x10_2 t153 x147000_2 x147001_2 x147002_2 t148 t149 t150)) = some r := H
                have A17 := Aside0.mk A170
                clear A170
                have HC18 := Aside0.mk H
                clear H
                obtain ⟨Ao19, co19, eo19⟩ := Kd.V_slice HO_147002.out
                subst eo19
                try go_wp2
                have n0_ := Aside0.mk (Kd.V_drew HO_147002.out)
                have n1_ := Aside0.mk (blk_drew BK146.out)
                have n2_ := Aside0.mk (below_drew1 HB.out)
                clear HO_147002
                clear BK146
                clear HB
                have HO_147002 := n0_
                have BK146 := n1_
                have HB := n2_
                clear n0_ n1_ n2_
                have p147 : 0 ≤ (x10_2 : Int) := of_decide_eq_true (by first | (with_reducible assumption) | assumption)
                have q147 : x10_2 < (l2.length : Int) := of_decide_eq_true (by first | (with_reducible assumption) | assumption)
                obtain ⟨ad147, e147, hx147_0⟩ := Kd.at_int HR2.out x10_2 p147 q147
                have hw147_0 := hx147_0
                cases e147
                replace hx147_0 := (HB.out.cell (World.block_lt_of_cell? w _ hx147_0)).trans hx147_0
                replace p147 := eq_true p147
                replace q147 := eq_true q147
                refine start_ (n := 12) (S := fun w' => w'.cell? ⟨gb146, 0, none⟩ = some (.int .i64 x147000_2) ∧ w'.cell? ⟨gb146, 1, none⟩ = some (.int .i64 x147001_2) ∧ w'.cell? ⟨gb146, 2, none⟩ = some (.slice Ao19 x147002_2.length co19) ∧ w'.cell? (ad147.add (x10_2).toNat) = some (.int .i64 (rd l2 x10_2))) (ds := []) #[false, false, false, false, false, false, false, false, false, false, false, false] (by kernel_rfl) rfl rfl ⟨(blk_cell BK146.out 0).trans rfl, (blk_cell BK146.out 1).trans rfl, (blk_cell BK146.out 2).trans rfl, ((HB.out.cell (World.block_lt_of_cell? w _ hw147_0)).trans hw147_0)⟩ (fun hHeld => ?_); refine with_tabW colloquylaw15_PeopleOwner.tab8 colloquylaw15_PeopleOwner.bits8 (fun HT_ HW_ => ?_)
                generalize wr.drew = w20 at HO_147002 BK146 HB hx147_0 hHeld ⊢
                refine pure_ (i := 1) (N := some 40) (v := ?_) (a' := ?_) #[false, true, false, false, false, false, false, false, false, false, false, false] rfl rfl (any_of HT_.out (by kernel_rfl)) (fun _ _ _ h => h) (Or.inl ⟨by rfl, ?_⟩) ?_ ?_
                rotate_left
                · intro w'
                  go_simp
                  with_reducible rfl
                rotate_left
                · simp only [Act.put, List.setIfInBounds_toArray, List.set_cons_zero, List.set_cons_succ, i64_w, i32_w]
                  rfl
                refine pure_ (i := 2) (N := some 41) (v := ?_) (a' := ?_) #[false, true, true, false, false, false, false, false, false, false, false, false] rfl rfl (any_of HT_.out (by kernel_rfl)) (fun _ _ _ h => h) (Or.inl ⟨by rfl, ?_⟩) ?_ ?_
                rotate_left
                · intro w'
                  go_simp
                  with_reducible rfl
                rotate_left
                · simp only [Act.put, List.setIfInBounds_toArray, List.set_cons_zero, List.set_cons_succ, i64_w, i32_w]
                  rfl
                refine pure_ (i := 3) (N := some 42) (v := ?_) (a' := ?_) #[false, true, true, true, false, false, false, false, false, false, false, false] rfl rfl (any_of HT_.out (by kernel_rfl)) (fun _ _ _ h => h) (Or.inl ⟨by rfl, ?_⟩) ?_ ?_
                rotate_left
                · intro w'
                  go_simp
                  with_reducible rfl
                rotate_left
                · simp only [Act.put, List.setIfInBounds_toArray, List.set_cons_zero, List.set_cons_succ, i64_w, i32_w]
                  rfl
                refine take_ (i := 0) (N := some 39) (v := ?_) (a' := ?_) #[true, true, true, true, false, false, false, false, false, false, false, false] rfl rfl (take_ofW HT_.out HW_.out (by kernel_rfl)) (fun _ _ _ h => h) (Or.inl ⟨by rfl, ?_⟩) hHeld ?_ ?_
                rotate_left
                · rintro w' ⟨s0, s1, s2, s3⟩
                  go_simp
                  with_reducible rfl
                rotate_left
                · simp only [Act.put, List.setIfInBounds_toArray, List.set_cons_zero, List.set_cons_succ, i64_w, i32_w]
                  rfl
                refine take_ (i := 4) (N := some 43) (v := ?_) (a' := ?_) #[true, true, true, true, true, false, false, false, false, false, false, false] rfl rfl (take_ofW HT_.out HW_.out (by kernel_rfl)) (fun _ _ _ h => h) (Or.inl ⟨by rfl, ?_⟩) hHeld ?_ ?_
                rotate_left
                · rintro w' ⟨s0, s1, s2, s3⟩
                  go_simp
                  with_reducible rfl
                rotate_left
                · simp only [Act.put, List.setIfInBounds_toArray, List.set_cons_zero, List.set_cons_succ, i64_w, i32_w]
                  rfl
                refine join_ (σ := Value × Nat) 2 #[true, true, true, true, true, true, true, true, true, true, false, false] (fun s_ => [(44, .tuple #[.agg #[.int .i64 t148, .int .i64 t149, s_.1], .int .i64 t153]), (11, .pointer (some ⟨s_.2, 0, none⟩)), (38, .tuple #[.agg #[.int .i64 t148, .int .i64 t149, s_.1], .int .i64 t153]), (45, .agg #[.int .i64 t148, .int .i64 t149, s_.1]), (46, .int .i64 t153)]) (fun s_ w' => (w'.cell? ⟨gb146, 0, none⟩ = some (.int .i64 x147000_2) ∧ w'.cell? ⟨gb146, 1, none⟩ = some (.int .i64 x147001_2) ∧ w'.cell? ⟨gb146, 2, none⟩ = some (.slice Ao19 x147002_2.length co19) ∧ w'.cell? (ad147.add (x10_2).toNat) = some (.int .i64 (rd l2 x10_2))) ∧ (Kd.V (Kd.int .i64) 3 w' w.heap.size (fun k_ => k_ ≠ gb146 ∧ k_ ≠ s_.2) s_.1 t150) ∧ (Kd.V (Kd.int .i64) 3 w' w.heap.size (fun k_ => k_ ≠ gb146 ∧ k_ ≠ s_.2) (.slice Ao19 x147002_2.length co19) x147002_2) ∧ (w'.heap[gb146]? = some (.cells #[.int .i64 x147000_2, .int .i64 x147001_2, .slice Ao19 x147002_2.length co19] 24 (0, 0))) ∧ (w'.heap[s_.2]? = some (.cells #[.int .i64 0, .int .i64 0, .slice none 0 0] 24 (0, 0))) ∧ (w.heap.size ≤ s_.2) ∧ (w.heap.size ≤ s_.2) ∧ (gb146 ≠ s_.2) ∧ (s_.2 ≠ gb146) ∧ (Below w.heap.size w w')) ?_ ?_
                rotate_left
                · intro hCont
                  refine two_ (i := 5) (j := 9) (Ni := some 44) (Nj := some 11) #[true, true, true, true, true, true, false, false, false, false, false, false] #[true, true, true, true, true, false, false, false, false, true, false, false] rfl rfl rfl rfl (two_of HT_.out (by kernel_rfl)) (by decide) (by decide) (fun K hK => ?_) (fun K hK => ?_)
                  · skip
                    refine goes_ Try.func9 (by kernel_rfl) rfl #[.agg #[.int .i64 x147000_2, .int .i64 x147001_2, .slice Ao19 x147002_2.length co19], .int .i64 (rd l2 x10_2)] (by rfl) rfl rfl (by (try simp only [List.map_toArray, List.map_cons, List.map_nil]); first | done | rfl | (simp only [List.length_drop, List.length_take]; rfl)) ?_
                    with_reducible refine (people_Join.calls k2 x147000_2 x147001_2 _ _ x147002_2 (rd l2 x10_2) t148 t149 t150 t153 _ ?side1 ?side2 A17.out).mono ?_
                    (case side1 => repeat (first | exact (Kd.V_reads' HO_147002.out).2.2 | (with_reducible refine Kd.C_alloc ?_ _) | (with_reducible refine Kd.C_drewN ?_ _) | (with_reducible refine Kd.C_drew ?_)))
                    (case side2 => exact (Kd.V_reads' HO_147002.out).2.1)
                    rintro e w21 ⟨v151, rfl, ho0, hb⟩
                    refine ⟨_, rfl, ?_⟩
                    have n0_ := Aside0.mk (Kd.V_below (by (with_reducible repeat (first | apply Kd.V_alloc | apply Kd.V_drewN | apply Kd.V_drew)); exact HO_147002.out) hb)
                    have n1_ := Aside0.mk (Kd.V_lower (Kd.V_mono (ok' := fun k_ => k_ ≠ gb146) ho0 (fun k_ hk_ => (Kd.freshB (g := gb146) (o := .cells #[.int .i64 x147000_2, .int .i64 x147001_2, .slice Ao19 x147002_2.length co19] 24 (0, 0)) (by (with_reducible repeat (first | refine blk_drewN ?_ _ | refine blk_drew ?_ | refine blk_alloc ?_ _)); exact BK146.out) k_ hk_))) (below_size (by repeat (first | (with_reducible first | exact HB.out | apply below_alloc | apply pw_below_drewN | apply below_drew1 | refine below_set ?_ GE146.out) | exact HB.out))))
                    have n2_ := Aside0.mk (blk_below (g := gb146) (o := .cells #[.int .i64 x147000_2, .int .i64 x147001_2, .slice Ao19 x147002_2.length co19] 24 (0, 0)) (by (with_reducible repeat (first | refine blk_drewN ?_ _ | refine blk_drew ?_ | refine blk_alloc ?_ _)); exact BK146.out) hb)
                    have n3_ := Aside0.mk (below_step (by repeat (first | (with_reducible first | exact HB.out | apply below_alloc | apply pw_below_drewN | apply below_drew1 | refine below_set ?_ GE146.out) | exact HB.out)) hb)
                    clear HO_147002
                    clear BK146
                    clear HB
                    have HO_147002 := n0_
                    have HO152 := n1_
                    have BK146 := n2_
                    have HB := n3_
                    clear n0_ n1_ n2_ n3_
                    (try clear hb)
                    (try clear hb2)
                    (try clear hk)
                    (try clear hi)
                    (try clear ho0)
                    refine hK.out _ _ ⟨(blk_cell BK146.out 0).trans rfl, (blk_cell BK146.out 1).trans rfl, (blk_cell BK146.out 2).trans rfl, ((HB.out.cell (World.block_lt_of_cell? w _ hw147_0)).trans hw147_0)⟩ (fun hHeld => ?_)
                    clear hK K
                    refine norm_ (a' := ?_) ?_ ?_
                    rotate_left
                    · show Act.put _ (some 44) _ = _
                      simp only [Act.put, List.setIfInBounds_toArray, List.set_cons_zero, List.set_cons_succ, i64_w, i32_w]
                      rfl
                    refine pure_ (i := 6) (N := some 38) (v := ?_) (a' := ?_) #[true, true, true, true, true, true, true, false, false, false, false, false] rfl rfl (any_of HT_.out (by kernel_rfl)) (fun _ _ _ h => h) (Or.inl ⟨by rfl, ?_⟩) ?_ ?_
                    rotate_left
                    · intro w'
                      go_simp
                      with_reducible rfl
                    rotate_left
                    · simp only [Act.put, List.setIfInBounds_toArray, List.set_cons_zero, List.set_cons_succ, i64_w, i32_w]
                      rfl
                    refine pure_ (i := 7) (N := some 45) (v := ?_) (a' := ?_) #[true, true, true, true, true, true, true, true, false, false, false, false] rfl rfl (any_of HT_.out (by kernel_rfl)) (fun _ _ _ h => h) (Or.inl ⟨by rfl, ?_⟩) ?_ ?_
                    rotate_left
                    · intro w'
                      go_simp
                      with_reducible rfl
                    rotate_left
                    · simp only [Act.put, List.setIfInBounds_toArray, List.set_cons_zero, List.set_cons_succ, i64_w, i32_w]
                      rfl
                    refine pure_ (i := 8) (N := some 46) (v := ?_) (a' := ?_) #[true, true, true, true, true, true, true, true, true, false, false, false] rfl rfl (any_of HT_.out (by kernel_rfl)) (fun _ _ _ h => h) (Or.inl ⟨by rfl, ?_⟩) ?_ ?_
                    rotate_left
                    · intro w'
                      go_simp
                      with_reducible rfl
                    rotate_left
                    · simp only [Act.put, List.setIfInBounds_toArray, List.set_cons_zero, List.set_cons_succ, i64_w, i32_w]
                      rfl
                    refine one_ (i := 9) (N := some 11) #[true, true, true, true, true, true, true, true, true, true, false, false] rfl rfl (one_of HT_.out (by kernel_rfl)) (by decide) (fun K hK => ?_)
                    refine box_step ?hg (N := 11) ?hd (cs := #[.int .i64 0, .int .i64 0, .slice none 0 0]) (t := 24) ?hr ?_; (case hd => rfl); (case hg => rfl); (case hr => first | (go_simp; done) | (go_simp; rfl))
                    intro gb154 hg w22 hbox hb
                    have n0_ := Aside0.mk (Kd.V_below (Kd.V_elderB (by (with_reducible repeat (first | apply Kd.V_alloc | apply Kd.V_drewN | apply Kd.V_drew)); exact HO_147002.out) gb154 (Nat.le_of_eq hg.symm)) hb)
                    have n1_ := Aside0.mk (Kd.V_below (Kd.V_elderB (by (with_reducible repeat (first | apply Kd.V_alloc | apply Kd.V_drewN | apply Kd.V_drew)); exact HO152.out) gb154 (Nat.le_of_eq hg.symm)) hb)
                    have n2_ := Aside0.mk (blk_below (g := gb146) (o := .cells #[.int .i64 x147000_2, .int .i64 x147001_2, .slice Ao19 x147002_2.length co19] 24 (0, 0)) (by (with_reducible repeat (first | refine blk_drewN ?_ _ | refine blk_drew ?_ | refine blk_alloc ?_ _)); exact BK146.out) hb)
                    have n3_ := Aside0.mk (below_step (by repeat (first | (with_reducible first | exact HB.out | apply below_alloc | apply pw_below_drewN | apply below_drew1 | refine below_set ?_ GE146.out) | exact HB.out)) hb)
                    have n4_ := Aside0.mk (hbox)
                    have n5_ := Aside0.mk ((by rw [hg]; exact (below_size (by repeat (first | (with_reducible first | exact HB.out | apply below_alloc | apply pw_below_drewN | apply below_drew1 | refine below_set ?_ GE146.out) | exact HB.out))) : w.heap.size ≤ gb154))
                    have n6_ := Aside0.mk ((by rw [hg]; exact (below_size (by repeat (first | (with_reducible first | exact HB.out | apply below_alloc | apply pw_below_drewN | apply below_drew1 | refine below_set ?_ GE146.out) | exact HB.out))) : w.heap.size ≤ gb154))
                    have n7_ := Aside0.mk ((by rw [hg]; exact Nat.ne_of_lt (blk_lt (g := gb146) (o := .cells #[.int .i64 x147000_2, .int .i64 x147001_2, .slice Ao19 x147002_2.length co19] 24 (0, 0)) (by (with_reducible repeat (first | refine blk_drewN ?_ _ | refine blk_drew ?_ | refine blk_alloc ?_ _)); exact BK146.out)) : gb146 ≠ gb154))
                    have n8_ := Aside0.mk ((by rw [hg]; exact Nat.ne_of_gt (blk_lt (g := gb146) (o := .cells #[.int .i64 x147000_2, .int .i64 x147001_2, .slice Ao19 x147002_2.length co19] 24 (0, 0)) (by (with_reducible repeat (first | refine blk_drewN ?_ _ | refine blk_drew ?_ | refine blk_alloc ?_ _)); exact BK146.out)) : gb154 ≠ gb146))
                    clear HO_147002
                    clear HO152
                    clear BK146
                    clear HB
                    have HO_147002 := n0_
                    have HO152 := n1_
                    have BK146 := n2_
                    have HB := n3_
                    have BK154 := n4_
                    have GW154 := n5_
                    have GE154 := n6_
                    have NB146_154 := n7_
                    have NB154_146 := n8_
                    clear n0_ n1_ n2_ n3_ n4_ n5_ n6_ n7_ n8_
                    clear hb hbox hg
                    refine hK.out _ _ ⟨(blk_cell BK146.out 0).trans rfl, (blk_cell BK146.out 1).trans rfl, (blk_cell BK146.out 2).trans rfl, ((HB.out.cell (World.block_lt_of_cell? w _ hw147_0)).trans hw147_0)⟩ (fun hHeld => ?_)
                    clear hK K
                    refine norm_ (a' := ?_) ?_ ?_
                    rotate_left
                    · show Act.put _ (some 11) _ = _
                      simp only [Act.put, List.setIfInBounds_toArray, List.set_cons_zero, List.set_cons_succ, i64_w, i32_w]
                      rfl
                    exact norm_ (by simp only [putAll, Act.put, List.setIfInBounds_toArray, List.set_cons_zero, List.set_cons_succ]) (hCont (v151, gb154) _ ⟨hHeld, (by (with_reducible repeat (first | apply Kd.V_alloc | apply Kd.V_drewN | apply Kd.V_drew)); exact HO152.out), (by (with_reducible repeat (first | apply Kd.V_alloc | apply Kd.V_drewN | apply Kd.V_drew)); exact HO_147002.out), (by (with_reducible repeat (first | refine blk_drewN ?_ _ | refine blk_drew ?_ | refine blk_alloc ?_ _)); exact BK146.out), (by (with_reducible repeat (first | refine blk_drewN ?_ _ | refine blk_drew ?_ | refine blk_alloc ?_ _)); exact BK154.out), GW154.out, GE154.out, NB146_154.out, NB154_146.out, (by repeat (first | (with_reducible first | exact HB.out | apply below_alloc | apply pw_below_drewN | apply below_drew1 | refine below_set ?_ GE146.out | refine below_set ?_ GE154.out) | exact HB.out))⟩)
                  · skip
                    refine box_step ?hg (N := 11) ?hd (cs := #[.int .i64 0, .int .i64 0, .slice none 0 0]) (t := 24) ?hr ?_; (case hd => rfl); (case hg => rfl); (case hr => first | (go_simp; done) | (go_simp; rfl))
                    intro gb154 hg w21 hbox hb
                    have n0_ := Aside0.mk (Kd.V_below (Kd.V_elderB (by (with_reducible repeat (first | apply Kd.V_alloc | apply Kd.V_drewN | apply Kd.V_drew)); exact HO_147002.out) gb154 (Nat.le_of_eq hg.symm)) hb)
                    have n1_ := Aside0.mk (blk_below (g := gb146) (o := .cells #[.int .i64 x147000_2, .int .i64 x147001_2, .slice Ao19 x147002_2.length co19] 24 (0, 0)) (by (with_reducible repeat (first | refine blk_drewN ?_ _ | refine blk_drew ?_ | refine blk_alloc ?_ _)); exact BK146.out) hb)
                    have n2_ := Aside0.mk (below_step (by repeat (first | (with_reducible first | exact HB.out | apply below_alloc | apply pw_below_drewN | apply below_drew1 | refine below_set ?_ GE146.out) | exact HB.out)) hb)
                    have n3_ := Aside0.mk (hbox)
                    have n4_ := Aside0.mk ((by rw [hg]; exact (below_size (by repeat (first | (with_reducible first | exact HB.out | apply below_alloc | apply pw_below_drewN | apply below_drew1 | refine below_set ?_ GE146.out) | exact HB.out))) : w.heap.size ≤ gb154))
                    have n5_ := Aside0.mk ((by rw [hg]; exact (below_size (by repeat (first | (with_reducible first | exact HB.out | apply below_alloc | apply pw_below_drewN | apply below_drew1 | refine below_set ?_ GE146.out) | exact HB.out))) : w.heap.size ≤ gb154))
                    have n6_ := Aside0.mk ((by rw [hg]; exact Nat.ne_of_lt (blk_lt (g := gb146) (o := .cells #[.int .i64 x147000_2, .int .i64 x147001_2, .slice Ao19 x147002_2.length co19] 24 (0, 0)) (by (with_reducible repeat (first | refine blk_drewN ?_ _ | refine blk_drew ?_ | refine blk_alloc ?_ _)); exact BK146.out)) : gb146 ≠ gb154))
                    have n7_ := Aside0.mk ((by rw [hg]; exact Nat.ne_of_gt (blk_lt (g := gb146) (o := .cells #[.int .i64 x147000_2, .int .i64 x147001_2, .slice Ao19 x147002_2.length co19] 24 (0, 0)) (by (with_reducible repeat (first | refine blk_drewN ?_ _ | refine blk_drew ?_ | refine blk_alloc ?_ _)); exact BK146.out)) : gb154 ≠ gb146))
                    clear HO_147002
                    clear BK146
                    clear HB
                    have HO_147002 := n0_
                    have BK146 := n1_
                    have HB := n2_
                    have BK154 := n3_
                    have GW154 := n4_
                    have GE154 := n5_
                    have NB146_154 := n6_
                    have NB154_146 := n7_
                    clear n0_ n1_ n2_ n3_ n4_ n5_ n6_ n7_
                    clear hb hbox hg
                    refine hK.out _ _ ⟨(blk_cell BK146.out 0).trans rfl, (blk_cell BK146.out 1).trans rfl, (blk_cell BK146.out 2).trans rfl, ((HB.out.cell (World.block_lt_of_cell? w _ hw147_0)).trans hw147_0)⟩ (fun hHeld => ?_)
                    clear hK K
                    refine norm_ (a' := ?_) ?_ ?_
                    rotate_left
                    · show Act.put _ (some 11) _ = _
                      simp only [Act.put, List.setIfInBounds_toArray, List.set_cons_zero, List.set_cons_succ, i64_w, i32_w]
                      rfl
                    refine one_ (i := 5) (N := some 44) #[true, true, true, true, true, true, false, false, false, true, false, false] rfl rfl (one_of HT_.out (by kernel_rfl)) (by decide) (fun K hK => ?_)
                    refine goes_ Try.func9 (by kernel_rfl) rfl #[.agg #[.int .i64 x147000_2, .int .i64 x147001_2, .slice Ao19 x147002_2.length co19], .int .i64 (rd l2 x10_2)] (by rfl) rfl rfl (by (try simp only [List.map_toArray, List.map_cons, List.map_nil]); first | done | rfl | (simp only [List.length_drop, List.length_take]; rfl)) ?_
                    with_reducible refine (people_Join.calls k2 x147000_2 x147001_2 _ _ x147002_2 (rd l2 x10_2) t148 t149 t150 t153 _ ?side1 ?side2 A17.out).mono ?_
                    (case side1 => repeat (first | exact (Kd.V_reads' HO_147002.out).2.2 | (with_reducible refine Kd.C_alloc ?_ _) | (with_reducible refine Kd.C_drewN ?_ _) | (with_reducible refine Kd.C_drew ?_)))
                    (case side2 => exact (Kd.V_reads' HO_147002.out).2.1)
                    rintro e w22 ⟨v151, rfl, ho0, hb⟩
                    refine ⟨_, rfl, ?_⟩
                    have n0_ := Aside0.mk (Kd.V_below (by (with_reducible repeat (first | apply Kd.V_alloc | apply Kd.V_drewN | apply Kd.V_drew)); exact HO_147002.out) hb)
                    have n1_ := Aside0.mk (Kd.V_lower (Kd.V_mono (ok' := fun k_ => k_ ≠ gb146 ∧ k_ ≠ gb154) ho0 (fun k_ hk_ => ⟨(Kd.freshB (g := gb146) (o := .cells #[.int .i64 x147000_2, .int .i64 x147001_2, .slice Ao19 x147002_2.length co19] 24 (0, 0)) (by (with_reducible repeat (first | refine blk_drewN ?_ _ | refine blk_drew ?_ | refine blk_alloc ?_ _)); exact BK146.out) k_ hk_), (Kd.freshB (g := gb154) (o := .cells #[.int .i64 0, .int .i64 0, .slice none 0 0] 24 (0, 0)) (by (with_reducible repeat (first | refine blk_drewN ?_ _ | refine blk_drew ?_ | refine blk_alloc ?_ _)); exact BK154.out) k_ hk_)⟩)) (below_size (by repeat (first | (with_reducible first | exact HB.out | apply below_alloc | apply pw_below_drewN | apply below_drew1 | refine below_set ?_ GE146.out | refine below_set ?_ GE154.out) | exact HB.out))))
                    have n2_ := Aside0.mk (blk_below (g := gb146) (o := .cells #[.int .i64 x147000_2, .int .i64 x147001_2, .slice Ao19 x147002_2.length co19] 24 (0, 0)) (by (with_reducible repeat (first | refine blk_drewN ?_ _ | refine blk_drew ?_ | refine blk_alloc ?_ _)); exact BK146.out) hb)
                    have n3_ := Aside0.mk (blk_below (g := gb154) (o := .cells #[.int .i64 0, .int .i64 0, .slice none 0 0] 24 (0, 0)) (by (with_reducible repeat (first | refine blk_drewN ?_ _ | refine blk_drew ?_ | refine blk_alloc ?_ _)); exact BK154.out) hb)
                    have n4_ := Aside0.mk (below_step (by repeat (first | (with_reducible first | exact HB.out | apply below_alloc | apply pw_below_drewN | apply below_drew1 | refine below_set ?_ GE146.out | refine below_set ?_ GE154.out) | exact HB.out)) hb)
                    clear HO_147002
                    clear BK146
                    clear BK154
                    clear HB
                    have HO_147002 := n0_
                    have HO152 := n1_
                    have BK146 := n2_
                    have BK154 := n3_
                    have HB := n4_
                    clear n0_ n1_ n2_ n3_ n4_
                    (try clear hb)
                    (try clear hb2)
                    (try clear hk)
                    (try clear hi)
                    (try clear ho0)
                    refine hK.out _ _ ⟨(blk_cell BK146.out 0).trans rfl, (blk_cell BK146.out 1).trans rfl, (blk_cell BK146.out 2).trans rfl, ((HB.out.cell (World.block_lt_of_cell? w _ hw147_0)).trans hw147_0)⟩ (fun hHeld => ?_)
                    clear hK K
                    refine norm_ (a' := ?_) ?_ ?_
                    rotate_left
                    · show Act.put _ (some 44) _ = _
                      simp only [Act.put, List.setIfInBounds_toArray, List.set_cons_zero, List.set_cons_succ, i64_w, i32_w]
                      rfl
                    refine pure_ (i := 6) (N := some 38) (v := ?_) (a' := ?_) #[true, true, true, true, true, true, true, false, false, true, false, false] rfl rfl (any_of HT_.out (by kernel_rfl)) (fun _ _ _ h => h) (Or.inl ⟨by rfl, ?_⟩) ?_ ?_
                    rotate_left
                    · intro w'
                      go_simp
                      with_reducible rfl
                    rotate_left
                    · simp only [Act.put, List.setIfInBounds_toArray, List.set_cons_zero, List.set_cons_succ, i64_w, i32_w]
                      rfl
                    refine pure_ (i := 7) (N := some 45) (v := ?_) (a' := ?_) #[true, true, true, true, true, true, true, true, false, true, false, false] rfl rfl (any_of HT_.out (by kernel_rfl)) (fun _ _ _ h => h) (Or.inl ⟨by rfl, ?_⟩) ?_ ?_
                    rotate_left
                    · intro w'
                      go_simp
                      with_reducible rfl
                    rotate_left
                    · simp only [Act.put, List.setIfInBounds_toArray, List.set_cons_zero, List.set_cons_succ, i64_w, i32_w]
                      rfl
                    refine pure_ (i := 8) (N := some 46) (v := ?_) (a' := ?_) #[true, true, true, true, true, true, true, true, true, true, false, false] rfl rfl (any_of HT_.out (by kernel_rfl)) (fun _ _ _ h => h) (Or.inl ⟨by rfl, ?_⟩) ?_ ?_
                    rotate_left
                    · intro w'
                      go_simp
                      with_reducible rfl
                    rotate_left
                    · simp only [Act.put, List.setIfInBounds_toArray, List.set_cons_zero, List.set_cons_succ, i64_w, i32_w]
                      rfl
                    exact norm_ (by simp only [putAll, Act.put, List.setIfInBounds_toArray, List.set_cons_zero, List.set_cons_succ]) (hCont (v151, gb154) _ ⟨hHeld, (by (with_reducible repeat (first | apply Kd.V_alloc | apply Kd.V_drewN | apply Kd.V_drew)); exact HO152.out), (by (with_reducible repeat (first | apply Kd.V_alloc | apply Kd.V_drewN | apply Kd.V_drew)); exact HO_147002.out), (by (with_reducible repeat (first | refine blk_drewN ?_ _ | refine blk_drew ?_ | refine blk_alloc ?_ _)); exact BK146.out), (by (with_reducible repeat (first | refine blk_drewN ?_ _ | refine blk_drew ?_ | refine blk_alloc ?_ _)); exact BK154.out), GW154.out, GE154.out, NB146_154.out, NB154_146.out, (by repeat (first | (with_reducible first | exact HB.out | apply below_alloc | apply pw_below_drewN | apply below_drew1 | refine below_set ?_ GE146.out | refine below_set ?_ GE154.out) | exact HB.out))⟩)
                rintro ⟨v151, gb154⟩ w23 ⟨hS_, h0_, h1_, h2_, h3_, h4_, h5_, h6_, h7_, h8_⟩
                have n0_ : Aside0 (Kd.V (Kd.int .i64) 3 w23 w.heap.size (fun k_ => k_ ≠ gb146 ∧ k_ ≠ gb154) v151 t150) := ⟨h0_⟩
                have n1_ : Aside0 (Kd.V (Kd.int .i64) 3 w23 w.heap.size (fun k_ => k_ ≠ gb146 ∧ k_ ≠ gb154) (.slice Ao19 x147002_2.length co19) x147002_2) := ⟨h1_⟩
                have n2_ : Aside0 (w23.heap[gb146]? = some (.cells #[.int .i64 x147000_2, .int .i64 x147001_2, .slice Ao19 x147002_2.length co19] 24 (0, 0))) := ⟨h2_⟩
                have n3_ : Aside0 (w23.heap[gb154]? = some (.cells #[.int .i64 0, .int .i64 0, .slice none 0 0] 24 (0, 0))) := ⟨h3_⟩
                have n4_ : Aside0 (w.heap.size ≤ gb154) := ⟨h4_⟩
                have n5_ : Aside0 (w.heap.size ≤ gb154) := ⟨h5_⟩
                have n6_ : Aside0 (gb146 ≠ gb154) := ⟨h6_⟩
                have n7_ : Aside0 (gb154 ≠ gb146) := ⟨h7_⟩
                have n8_ : Aside0 (Below w.heap.size w w23) := ⟨h8_⟩
                clear HO_147002
                clear BK146
                clear HB
                clear h0_ h1_ h2_ h3_ h4_ h5_ h6_ h7_ h8_
                have HO152 := n0_
                have HO_147002 := n1_
                have BK146 := n2_
                have BK154 := n3_
                have GW154 := n4_
                have GE154 := n5_
                have NB146_154 := n6_
                have NB154_146 := n7_
                have HB := n8_
                clear n0_ n1_ n2_ n3_ n4_ n5_ n6_ n7_ n8_
                have hHeld : w23.cell? ⟨gb146, 0, none⟩ = some (.int .i64 x147000_2) ∧ w23.cell? ⟨gb146, 1, none⟩ = some (.int .i64 x147001_2) ∧ w23.cell? ⟨gb146, 2, none⟩ = some (.slice Ao19 x147002_2.length co19) ∧ w23.cell? (ad147.add (x10_2).toNat) = some (.int .i64 (rd l2 x10_2)) := hS_
                obtain ⟨Ao26, co26, eo26⟩ := Kd.V_slice HO152.out
                (first | subst eo26 | (injection eo26 with f1_ f2_ f3_; have f4_ := f1_.symm; have f5_ := f3_.symm; clear f1_ f2_ f3_; subst f4_; subst f5_))
                refine norm_ (a' := ?_) ?_ ?_
                rotate_left
                · simp only [putAll, Act.put, List.setIfInBounds_toArray, List.set_cons_zero, List.set_cons_succ]
                  rfl
                refine one_ (i := 10) (N := none) #[true, true, true, true, true, true, true, true, true, true, true, false] rfl rfl (one_of HT_.out (by kernel_rfl)) (by decide) (fun K hK => ?_)
                have hs24 : w23.cell? ⟨gb154, 0, none⟩ = some (.int .i64 0) := (blk_cell BK154.out 0).trans rfl
                have hfs24 := blk_frozen BK154.out 0
                have hns24_0 := NB146_154.out
                have hms24_0 := NB154_146.out
                have hs25 : w23.cell? ⟨gb154, 1, none⟩ = some (.int .i64 0) := (blk_cell BK154.out 1).trans rfl
                have hfs25 := blk_frozen BK154.out 1
                have hns25_0 := NB146_154.out
                have hms25_0 := NB154_146.out
                have hs27 : w23.cell? ⟨gb154, 2, none⟩ = some (.slice none 0 0) := (blk_cell BK154.out 2).trans rfl
                have hfs27 := blk_frozen BK154.out 2
                have hns27_0 := NB146_154.out
                have hms27_0 := NB154_146.out
                refine skip_ (w1 := ?_) (by rfl) rfl ?_ ?_
                rotate_left
                · go_simp
                  rfl
                refine hK.out _ _ ⟨((cell_far (p := ⟨gb154, _, none⟩) NB146_154.out _).trans (((cell_far (p := ⟨gb154, _, none⟩) NB146_154.out _).trans (((cell_far (p := ⟨gb154, _, none⟩) NB146_154.out _).trans (hHeld.1)))))), ((cell_far (p := ⟨gb154, _, none⟩) NB146_154.out _).trans (((cell_far (p := ⟨gb154, _, none⟩) NB146_154.out _).trans (((cell_far (p := ⟨gb154, _, none⟩) NB146_154.out _).trans (hHeld.2.1)))))), ((cell_far (p := ⟨gb154, _, none⟩) NB146_154.out _).trans (((cell_far (p := ⟨gb154, _, none⟩) NB146_154.out _).trans (((cell_far (p := ⟨gb154, _, none⟩) NB146_154.out _).trans (hHeld.2.2.1)))))), ((cell_far (p := ⟨gb154, _, none⟩) (by first | exact Nat.ne_of_lt (Nat.lt_of_lt_of_le (by have := World.block_lt_of_cell? _ _ hw147_0; first | rwa [add_block] at this | exact this) GW154.out) | (rw [add_block]; exact Nat.ne_of_lt (Nat.lt_of_lt_of_le (by have := World.block_lt_of_cell? _ _ hw147_0; first | rwa [add_block] at this | exact this) GW154.out)) | (show (Addr.add _ _).block ≠ _; rw [add_block]; exact Nat.ne_of_lt (Nat.lt_of_lt_of_le (by have := World.block_lt_of_cell? _ _ hw147_0; first | rwa [add_block] at this | exact this) GW154.out)) | (dsimp only; exact Nat.ne_of_lt (Nat.lt_of_lt_of_le (by have := World.block_lt_of_cell? _ _ hw147_0; first | rwa [add_block] at this | exact this) GW154.out))) _).trans (((cell_far (p := ⟨gb154, _, none⟩) (by first | exact Nat.ne_of_lt (Nat.lt_of_lt_of_le (by have := World.block_lt_of_cell? _ _ hw147_0; first | rwa [add_block] at this | exact this) GW154.out) | (rw [add_block]; exact Nat.ne_of_lt (Nat.lt_of_lt_of_le (by have := World.block_lt_of_cell? _ _ hw147_0; first | rwa [add_block] at this | exact this) GW154.out)) | (show (Addr.add _ _).block ≠ _; rw [add_block]; exact Nat.ne_of_lt (Nat.lt_of_lt_of_le (by have := World.block_lt_of_cell? _ _ hw147_0; first | rwa [add_block] at this | exact this) GW154.out)) | (dsimp only; exact Nat.ne_of_lt (Nat.lt_of_lt_of_le (by have := World.block_lt_of_cell? _ _ hw147_0; first | rwa [add_block] at this | exact this) GW154.out))) _).trans (((cell_far (p := ⟨gb154, _, none⟩) (by first | exact Nat.ne_of_lt (Nat.lt_of_lt_of_le (by have := World.block_lt_of_cell? _ _ hw147_0; first | rwa [add_block] at this | exact this) GW154.out) | (rw [add_block]; exact Nat.ne_of_lt (Nat.lt_of_lt_of_le (by have := World.block_lt_of_cell? _ _ hw147_0; first | rwa [add_block] at this | exact this) GW154.out)) | (show (Addr.add _ _).block ≠ _; rw [add_block]; exact Nat.ne_of_lt (Nat.lt_of_lt_of_le (by have := World.block_lt_of_cell? _ _ hw147_0; first | rwa [add_block] at this | exact this) GW154.out)) | (dsimp only; exact Nat.ne_of_lt (Nat.lt_of_lt_of_le (by have := World.block_lt_of_cell? _ _ hw147_0; first | rwa [add_block] at this | exact this) GW154.out))) _).trans (hHeld.2.2.2))))))⟩ (fun hHeld => ?_)
                clear hK K
                refine pure_ (i := 11) (N := some 12) (v := ?_) (a' := ?_) #[true, true, true, true, true, true, true, true, true, true, true, true] rfl rfl (any_of HT_.out (by kernel_rfl)) (fun _ _ _ h => h) (Or.inl ⟨by rfl, ?_⟩) ?_ ?_
                rotate_left
                · intro w'
                  go_simp
                  with_reducible rfl
                rotate_left
                · simp only [Act.put, List.setIfInBounds_toArray, List.set_cons_zero, List.set_cons_succ, i64_w, i32_w]
                  rfl
                refine done_ (done_of HT_.out (by kernel_rfl)) ?_
                have p155 : 0 ≤ (x10_2 : Int) := of_decide_eq_true (by first | (with_reducible assumption) | assumption)
                have q155 : x10_2 < (l2.length : Int) := of_decide_eq_true (by first | (with_reducible assumption) | assumption)
                obtain ⟨ad155, e155, hx155_0⟩ := Kd.at_int HR2.out x10_2 p155 q155
                obtain rfl : ad147 = ad155 := (by injection e155)
                have hn155_0 : ad147.block ≠ gb154 := Nat.ne_of_lt (Nat.lt_of_lt_of_le (by have := World.block_lt_of_cell? _ _ hx155_0; first | rwa [add_block] at this | exact this) GW154.out)
                have hn155_1 : ad147.block ≠ gb154 := Nat.ne_of_lt (Nat.lt_of_lt_of_le (by have := World.block_lt_of_cell? _ _ hx155_0; first | rwa [add_block] at this | exact this) GW154.out)
                have hn155_2 : ad147.block ≠ gb154 := Nat.ne_of_lt (Nat.lt_of_lt_of_le (by have := World.block_lt_of_cell? _ _ hx155_0; first | rwa [add_block] at this | exact this) GW154.out)
                replace hx155_0 := (HB.out.cell (World.block_lt_of_cell? w _ hx155_0)).trans hx155_0
                replace hx155_0 := (cell_far (p := ⟨gb154, 0, none⟩) (by first | (rw [add_block]; exact hn155_0) | (show (Addr.add _ _).block ≠ _; rw [add_block]; exact hn155_0) | exact hn155_0) (.int .i64 t148)).trans hx155_0
                replace hx155_0 := (cell_far (p := ⟨gb154, 1, none⟩) (by first | (rw [add_block]; exact hn155_1) | (show (Addr.add _ _).block ≠ _; rw [add_block]; exact hn155_1) | exact hn155_1) (.int .i64 t149)).trans hx155_0
                replace hx155_0 := (cell_far (p := ⟨gb154, 2, none⟩) (by first | (rw [add_block]; exact hn155_2) | (show (Addr.add _ _).block ≠ _; rw [add_block]; exact hn155_2) | exact hn155_2) (.slice Ao26 t150.length co26)).trans hx155_0
                clear hn155_0
                clear hn155_1
                clear hn155_2
                replace p155 := eq_true p155
                replace q155 := eq_true q155
                go_upto_if 51 with (fail)
                go_cut [12] (fun v12 wc => ∃ (kq : Nat) (x12_17 : Int) (x155000_17 : Int) (x155001_17 : Int) (x155002_17 : List Int) (u155002 : Value), v12 = .int .i64 x12_17 ∧ Aside0 (colloquylaw15_PeopleOwner.j2 kq a0 a1 l2 x10_2 x12_17 x147000_2 x147001_2 x147002_2 x155000_17 x155001_17 x155002_17 = some r) ∧ Aside0 (kq ≤ k2) ∧ Aside0 (Kd.V (Kd.int .i64) 3 wc w.heap.size (fun k_ => k_ ≠ gb146 ∧ k_ ≠ gb154) (.slice Ao19 x147002_2.length co19) x147002_2) ∧ Aside0 (Kd.V (Kd.int .i64) 3 wc w.heap.size (fun k_ => k_ ≠ gb146 ∧ k_ ≠ gb154) u155002 x155002_17) ∧ Aside0 (wc.heap[gb146]? = some (.cells #[.int .i64 x147000_2, .int .i64 x147001_2, (.slice Ao19 x147002_2.length co19)] 24 (0, 0))) ∧ Aside0 (wc.heap[gb154]? = some (.cells #[.int .i64 x155000_17, .int .i64 x155001_17, u155002] 24 (0, 0))) ∧ Aside0 (Below w.heap.size w wc))
                case first =>
                  have H := HC18.out
                  clear HC18
                  by_cases c28 : (rd l2 x10_2) < 0
                  · rw [if_pos c28] at H
                    have c28b0 : decide ((rd l2 x10_2) < 0) = true := decide_eq_true c28
                    clear c28
                    (first | rw [c28b0] | (simp only [i64_w, i32_w]; rw [c28b0]) | skip)
                    replace H := Option.bind_eq_some_iff.mp H
                    obtain ⟨⟨t157, t158, t159, t162⟩, A290, H⟩ := H
                    replace H : (colloquylaw15_PeopleOwner.j2 k2 a0 a1 l2 x10_2 t162 x147000_2 x147001_2 x147002_2 t157 t158 t159) = some r := H
                    have A29 := Aside0.mk A290
                    clear A290
                    have H' := Aside0.mk H
                    clear H
                    try go_wp2
                    have n0_ : Aside0 (Kd.V (Kd.int .i64) 3 (((w23.setCell ⟨gb154, 0, none⟩ (.int .i64 t148)).setCell ⟨gb154, 1, none⟩ (.int .i64 t149)).setCell ⟨gb154, 2, none⟩ (.slice Ao26 t150.length co26)) w.heap.size (fun k_ => k_ ≠ gb146 ∧ k_ ≠ gb154) (.slice Ao19 x147002_2.length co19) x147002_2) := ⟨by (with_reducible repeat (first | apply Kd.V_alloc | apply Kd.V_drewN | apply Kd.V_drew)); exact Kd.V_mono (Kd.V_far (p := ⟨gb154, 2, none⟩) (Kd.V_far (p := ⟨gb154, 1, none⟩) (Kd.V_far (p := ⟨gb154, 0, none⟩) (Kd.V_mono HO_147002.out (fun k_ hk => (⟨hk, hk.2⟩ : _ ∧ k_ ≠ gb154))) (fun _ hk => hk.2) (.int .i64 t148)) (fun _ hk => hk.2) (.int .i64 t149)) (fun _ hk => hk.2) (.slice Ao26 t150.length co26)) (fun _ hk => ⟨hk.1.1, hk.1.2⟩)⟩
                    have n1_ : Aside0 (Kd.V (Kd.int .i64) 3 (((w23.setCell ⟨gb154, 0, none⟩ (.int .i64 t148)).setCell ⟨gb154, 1, none⟩ (.int .i64 t149)).setCell ⟨gb154, 2, none⟩ (.slice Ao26 t150.length co26)) w.heap.size (fun k_ => k_ ≠ gb146 ∧ k_ ≠ gb154) (.slice Ao26 t150.length co26) t150) := ⟨by (with_reducible repeat (first | apply Kd.V_alloc | apply Kd.V_drewN | apply Kd.V_drew)); exact Kd.V_mono (Kd.V_far (p := ⟨gb154, 2, none⟩) (Kd.V_far (p := ⟨gb154, 1, none⟩) (Kd.V_far (p := ⟨gb154, 0, none⟩) (Kd.V_mono HO152.out (fun k_ hk => (⟨hk, hk.2⟩ : _ ∧ k_ ≠ gb154))) (fun _ hk => hk.2) (.int .i64 t148)) (fun _ hk => hk.2) (.int .i64 t149)) (fun _ hk => hk.2) (.slice Ao26 t150.length co26)) (fun _ hk => ⟨hk.1.1, hk.1.2⟩)⟩
                    have n2_ : Aside0 ((((w23.setCell ⟨gb154, 0, none⟩ (.int .i64 t148)).setCell ⟨gb154, 1, none⟩ (.int .i64 t149)).setCell ⟨gb154, 2, none⟩ (.slice Ao26 t150.length co26)).heap[gb146]? = some (.cells #[.int .i64 x147000_2, .int .i64 x147001_2, .slice Ao19 x147002_2.length co19] 24 (0, 0))) := ⟨by (with_reducible repeat (first | refine blk_drewN ?_ _ | refine blk_drew ?_ | refine blk_alloc ?_ _)); refine blk_far ?_ NB146_154.out _; (with_reducible repeat (first | refine blk_drewN ?_ _ | refine blk_drew ?_ | refine blk_alloc ?_ _)); refine blk_far ?_ NB146_154.out _; (with_reducible repeat (first | refine blk_drewN ?_ _ | refine blk_drew ?_ | refine blk_alloc ?_ _)); refine blk_far ?_ NB146_154.out _; (with_reducible repeat (first | refine blk_drewN ?_ _ | refine blk_drew ?_ | refine blk_alloc ?_ _)); exact BK146.out⟩
                    have n3_ : Aside0 ((((w23.setCell ⟨gb154, 0, none⟩ (.int .i64 t148)).setCell ⟨gb154, 1, none⟩ (.int .i64 t149)).setCell ⟨gb154, 2, none⟩ (.slice Ao26 t150.length co26)).heap[gb154]? = some (.cells #[.int .i64 t148, .int .i64 t149, .slice Ao26 t150.length co26] 24 (0, 0))) := ⟨by (with_reducible repeat (first | refine blk_drewN ?_ _ | refine blk_drew ?_ | refine blk_alloc ?_ _)); refine blk_put (cs := #[.int .i64 t148, .int .i64 t149, .slice none 0 0]) ?_ 2 _ rfl; (with_reducible repeat (first | refine blk_drewN ?_ _ | refine blk_drew ?_ | refine blk_alloc ?_ _)); refine blk_put (cs := #[.int .i64 t148, .int .i64 0, .slice none 0 0]) ?_ 1 _ rfl; (with_reducible repeat (first | refine blk_drewN ?_ _ | refine blk_drew ?_ | refine blk_alloc ?_ _)); refine blk_put (cs := #[.int .i64 0, .int .i64 0, .slice none 0 0]) ?_ 0 _ rfl; (with_reducible repeat (first | refine blk_drewN ?_ _ | refine blk_drew ?_ | refine blk_alloc ?_ _)); exact BK154.out⟩
                    have n4_ : Aside0 (Below w.heap.size w (((w23.setCell ⟨gb154, 0, none⟩ (.int .i64 t148)).setCell ⟨gb154, 1, none⟩ (.int .i64 t149)).setCell ⟨gb154, 2, none⟩ (.slice Ao26 t150.length co26))) := ⟨by repeat (first | (with_reducible first | exact HB.out | apply below_alloc | apply pw_below_drewN | apply below_drew1 | refine below_set ?_ GE146.out | refine below_set ?_ GE154.out) | exact HB.out)⟩
                    (try clear HO_147002)
                    (try clear HO152)
                    (try clear BK146)
                    (try clear BK154)
                    (try clear HB)
                    generalize (((w23.setCell ⟨gb154, 0, none⟩ (.int .i64 t148)).setCell ⟨gb154, 1, none⟩ (.int .i64 t149)).setCell ⟨gb154, 2, none⟩ (.slice Ao26 t150.length co26)) = w30 at n0_ n1_ n2_ n3_ n4_ ⊢
                    have HO_147002 := n0_
                    have HO152 := n1_
                    have BK146 := n2_
                    have BK154 := n3_
                    have HB := n4_
                    clear n0_ n1_ n2_ n3_ n4_
                    have n0_ := Aside0.mk (Kd.V_drew HO_147002.out)
                    have n1_ := Aside0.mk (Kd.V_drew HO152.out)
                    have n2_ := Aside0.mk (blk_drew BK146.out)
                    have n3_ := Aside0.mk (blk_drew BK154.out)
                    have n4_ := Aside0.mk (below_drew1 HB.out)
                    clear HO_147002
                    clear HO152
                    clear BK146
                    clear BK154
                    clear HB
                    have HO_147002 := n0_
                    have HO152 := n1_
                    have BK146 := n2_
                    have BK154 := n3_
                    have HB := n4_
                    clear n0_ n1_ n2_ n3_ n4_
                    have p156 : 0 ≤ (x10_2 : Int) := of_decide_eq_true (by first | (with_reducible assumption) | assumption)
                    have q156 : x10_2 < (l2.length : Int) := of_decide_eq_true (by first | (with_reducible assumption) | assumption)
                    obtain ⟨ad156, e156, hx156_0⟩ := Kd.at_int HR2.out x10_2 p156 q156
                    have hw156_0 := hx156_0
                    obtain rfl : ad147 = ad156 := (by injection e156)
                    replace hx156_0 := (HB.out.cell (World.block_lt_of_cell? w _ hx156_0)).trans hx156_0
                    replace p156 := eq_true p156
                    replace q156 := eq_true q156
                    refine start_ (n := 12) (S := fun w' => w'.cell? ⟨gb146, 0, none⟩ = some (.int .i64 x147000_2) ∧ w'.cell? ⟨gb146, 1, none⟩ = some (.int .i64 x147001_2) ∧ w'.cell? ⟨gb146, 2, none⟩ = some (.slice Ao19 x147002_2.length co19) ∧ w'.cell? (ad147.add (x10_2).toNat) = some (.int .i64 (rd l2 x10_2))) (ds := []) #[false, false, false, false, false, false, false, false, false, false, false, false] (by kernel_rfl) rfl rfl ⟨(blk_cell BK146.out 0).trans rfl, (blk_cell BK146.out 1).trans rfl, (blk_cell BK146.out 2).trans rfl, ((HB.out.cell (World.block_lt_of_cell? w _ hw156_0)).trans hw156_0)⟩ (fun hHeld => ?_); refine with_tabW colloquylaw15_PeopleOwner.tab10 colloquylaw15_PeopleOwner.bits10 (fun HT_ HW_ => ?_)
                    generalize w30.drew = w31 at HO_147002 HO152 BK146 BK154 HB hx156_0 hHeld ⊢
                    refine pure_ (i := 1) (N := some 54) (v := ?_) (a' := ?_) #[false, true, false, false, false, false, false, false, false, false, false, false] rfl rfl (any_of HT_.out (by kernel_rfl)) (fun _ _ _ h => h) (Or.inl ⟨by rfl, ?_⟩) ?_ ?_
                    rotate_left
                    · intro w'
                      go_simp
                      with_reducible rfl
                    rotate_left
                    · simp only [Act.put, List.setIfInBounds_toArray, List.set_cons_zero, List.set_cons_succ, i64_w, i32_w]
                      rfl
                    refine pure_ (i := 2) (N := some 55) (v := ?_) (a' := ?_) #[false, true, true, false, false, false, false, false, false, false, false, false] rfl rfl (any_of HT_.out (by kernel_rfl)) (fun _ _ _ h => h) (Or.inl ⟨by rfl, ?_⟩) ?_ ?_
                    rotate_left
                    · intro w'
                      go_simp
                      with_reducible rfl
                    rotate_left
                    · simp only [Act.put, List.setIfInBounds_toArray, List.set_cons_zero, List.set_cons_succ, i64_w, i32_w]
                      rfl
                    refine pure_ (i := 3) (N := some 56) (v := ?_) (a' := ?_) #[false, true, true, true, false, false, false, false, false, false, false, false] rfl rfl (any_of HT_.out (by kernel_rfl)) (fun _ _ _ h => h) (Or.inl ⟨by rfl, ?_⟩) ?_ ?_
                    rotate_left
                    · intro w'
                      go_simp
                      with_reducible rfl
                    rotate_left
                    · simp only [Act.put, List.setIfInBounds_toArray, List.set_cons_zero, List.set_cons_succ, i64_w, i32_w]
                      rfl
                    refine take_ (i := 0) (N := some 53) (v := ?_) (a' := ?_) #[true, true, true, true, false, false, false, false, false, false, false, false] rfl rfl (take_ofW HT_.out HW_.out (by kernel_rfl)) (fun _ _ _ h => h) (Or.inl ⟨by rfl, ?_⟩) hHeld ?_ ?_
                    rotate_left
                    · rintro w' ⟨s0, s1, s2, s3⟩
                      go_simp
                      with_reducible rfl
                    rotate_left
                    · simp only [Act.put, List.setIfInBounds_toArray, List.set_cons_zero, List.set_cons_succ, i64_w, i32_w]
                      rfl
                    refine take_ (i := 4) (N := some 57) (v := ?_) (a' := ?_) #[true, true, true, true, true, false, false, false, false, false, false, false] rfl rfl (take_ofW HT_.out HW_.out (by kernel_rfl)) (fun _ _ _ h => h) (Or.inl ⟨by rfl, ?_⟩) hHeld ?_ ?_
                    rotate_left
                    · rintro w' ⟨s0, s1, s2, s3⟩
                      go_simp
                      with_reducible rfl
                    rotate_left
                    · simp only [Act.put, List.setIfInBounds_toArray, List.set_cons_zero, List.set_cons_succ, i64_w, i32_w]
                      rfl
                    refine pure_ (i := 5) (N := some 58) (v := ?_) (a' := ?_) #[true, true, true, true, true, true, false, false, false, false, false, false] rfl rfl (any_of HT_.out (by kernel_rfl)) (fun _ _ _ h => h) (Or.inl ⟨by rfl, ?_⟩) ?_ ?_
                    rotate_left
                    · intro w'
                      go_simp
                      with_reducible rfl
                    rotate_left
                    · simp only [Act.put, List.setIfInBounds_toArray, List.set_cons_zero, List.set_cons_succ, i64_w, i32_w]
                      rfl
                    refine one_ (i := 6) (N := some 59) #[true, true, true, true, true, true, true, false, false, false, false, false] rfl rfl (one_of HT_.out (by kernel_rfl)) (by decide) (fun K hK => ?_)
                    refine goes_ Try.func11 (by kernel_rfl) rfl #[.agg #[.int .i64 x147000_2, .int .i64 x147001_2, .slice Ao19 x147002_2.length co19], .int .i64 (wrap64 (-(rd l2 x10_2)))] (by rfl) rfl rfl (by (try simp only [List.map_toArray, List.map_cons, List.map_nil]); first | done | rfl | (simp only [List.length_drop, List.length_take]; rfl)) ?_
                    with_reducible refine (people_Leave.calls k2 x147000_2 x147001_2 _ _ x147002_2 (wrap64 (-(rd l2 x10_2))) t157 t158 t159 t162 _ ?side1 ?side2 A29.out).mono ?_
                    (case side1 => repeat (first | exact (Kd.V_reads' HO_147002.out).2.2 | (with_reducible refine Kd.C_alloc ?_ _) | (with_reducible refine Kd.C_drewN ?_ _) | (with_reducible refine Kd.C_drew ?_)))
                    (case side2 => exact (Kd.V_reads' HO_147002.out).2.1)
                    rintro e w32 ⟨v160, rfl, ho0, hb⟩
                    refine ⟨_, rfl, ?_⟩
                    have n0_ := Aside0.mk (Kd.V_below (by (with_reducible repeat (first | apply Kd.V_alloc | apply Kd.V_drewN | apply Kd.V_drew)); exact HO_147002.out) hb)
                    have n1_ := Aside0.mk (Kd.V_below (by (with_reducible repeat (first | apply Kd.V_alloc | apply Kd.V_drewN | apply Kd.V_drew)); exact HO152.out) hb)
                    have n2_ := Aside0.mk (Kd.V_lower (Kd.V_mono (ok' := fun k_ => k_ ≠ gb146 ∧ k_ ≠ gb154) ho0 (fun k_ hk_ => ⟨(Kd.freshB (g := gb146) (o := .cells #[.int .i64 x147000_2, .int .i64 x147001_2, .slice Ao19 x147002_2.length co19] 24 (0, 0)) (by (with_reducible repeat (first | refine blk_drewN ?_ _ | refine blk_drew ?_ | refine blk_alloc ?_ _)); exact BK146.out) k_ hk_), (Kd.freshB (g := gb154) (o := .cells #[.int .i64 t148, .int .i64 t149, .slice Ao26 t150.length co26] 24 (0, 0)) (by (with_reducible repeat (first | refine blk_drewN ?_ _ | refine blk_drew ?_ | refine blk_alloc ?_ _)); exact BK154.out) k_ hk_)⟩)) (below_size (by repeat (first | (with_reducible first | exact HB.out | apply below_alloc | apply pw_below_drewN | apply below_drew1 | refine below_set ?_ GE146.out | refine below_set ?_ GE154.out) | exact HB.out))))
                    have n3_ := Aside0.mk (blk_below (g := gb146) (o := .cells #[.int .i64 x147000_2, .int .i64 x147001_2, .slice Ao19 x147002_2.length co19] 24 (0, 0)) (by (with_reducible repeat (first | refine blk_drewN ?_ _ | refine blk_drew ?_ | refine blk_alloc ?_ _)); exact BK146.out) hb)
                    have n4_ := Aside0.mk (blk_below (g := gb154) (o := .cells #[.int .i64 t148, .int .i64 t149, .slice Ao26 t150.length co26] 24 (0, 0)) (by (with_reducible repeat (first | refine blk_drewN ?_ _ | refine blk_drew ?_ | refine blk_alloc ?_ _)); exact BK154.out) hb)
                    have n5_ := Aside0.mk (below_step (by repeat (first | (with_reducible first | exact HB.out | apply below_alloc | apply pw_below_drewN | apply below_drew1 | refine below_set ?_ GE146.out | refine below_set ?_ GE154.out) | exact HB.out)) hb)
                    clear HO_147002
                    clear HO152
                    clear BK146
                    clear BK154
                    clear HB
                    have HO_147002 := n0_
                    have HO152 := n1_
                    have HO161 := n2_
                    have BK146 := n3_
                    have BK154 := n4_
                    have HB := n5_
                    clear n0_ n1_ n2_ n3_ n4_ n5_
                    (try clear hb)
                    (try clear hb2)
                    (try clear hk)
                    (try clear hi)
                    (try clear ho0)
                    obtain ⟨Ao35, co35, eo35⟩ := Kd.V_slice HO161.out
                    (first | subst eo35 | (injection eo35 with f1_ f2_ f3_; have f4_ := f1_.symm; have f5_ := f3_.symm; clear f1_ f2_ f3_; subst f4_; subst f5_))
                    refine hK.out _ _ ⟨(blk_cell BK146.out 0).trans rfl, (blk_cell BK146.out 1).trans rfl, (blk_cell BK146.out 2).trans rfl, ((HB.out.cell (World.block_lt_of_cell? w _ hw156_0)).trans hw156_0)⟩ (fun hHeld => ?_)
                    clear hK K
                    refine norm_ (a' := ?_) ?_ ?_
                    rotate_left
                    · show Act.put _ (some 59) _ = _
                      simp only [Act.put, List.setIfInBounds_toArray, List.set_cons_zero, List.set_cons_succ, i64_w, i32_w]
                      rfl
                    refine pure_ (i := 7) (N := some 52) (v := ?_) (a' := ?_) #[true, true, true, true, true, true, true, true, false, false, false, false] rfl rfl (any_of HT_.out (by kernel_rfl)) (fun _ _ _ h => h) (Or.inl ⟨by rfl, ?_⟩) ?_ ?_
                    rotate_left
                    · intro w'
                      go_simp
                      with_reducible rfl
                    rotate_left
                    · simp only [Act.put, List.setIfInBounds_toArray, List.set_cons_zero, List.set_cons_succ, i64_w, i32_w]
                      rfl
                    refine pure_ (i := 8) (N := some 60) (v := ?_) (a' := ?_) #[true, true, true, true, true, true, true, true, true, false, false, false] rfl rfl (any_of HT_.out (by kernel_rfl)) (fun _ _ _ h => h) (Or.inl ⟨by rfl, ?_⟩) ?_ ?_
                    rotate_left
                    · intro w'
                      go_simp
                      with_reducible rfl
                    rotate_left
                    · simp only [Act.put, List.setIfInBounds_toArray, List.set_cons_zero, List.set_cons_succ, i64_w, i32_w]
                      rfl
                    refine pure_ (i := 9) (N := some 61) (v := ?_) (a' := ?_) #[true, true, true, true, true, true, true, true, true, true, false, false] rfl rfl (any_of HT_.out (by kernel_rfl)) (fun _ _ _ h => h) (Or.inl ⟨by rfl, ?_⟩) ?_ ?_
                    rotate_left
                    · intro w'
                      go_simp
                      with_reducible rfl
                    rotate_left
                    · simp only [Act.put, List.setIfInBounds_toArray, List.set_cons_zero, List.set_cons_succ, i64_w, i32_w]
                      rfl
                    refine one_ (i := 10) (N := none) #[true, true, true, true, true, true, true, true, true, true, true, false] rfl rfl (one_of HT_.out (by kernel_rfl)) (by decide) (fun K hK => ?_)
                    have hs33 : w32.cell? ⟨gb154, 0, none⟩ = some (.int .i64 t148) := (blk_cell BK154.out 0).trans rfl
                    have hfs33 := blk_frozen BK154.out 0
                    have hns33_0 := NB146_154.out
                    have hms33_0 := NB154_146.out
                    have hs34 : w32.cell? ⟨gb154, 1, none⟩ = some (.int .i64 t149) := (blk_cell BK154.out 1).trans rfl
                    have hfs34 := blk_frozen BK154.out 1
                    have hns34_0 := NB146_154.out
                    have hms34_0 := NB154_146.out
                    have hs36 : w32.cell? ⟨gb154, 2, none⟩ = some (.slice Ao26 t150.length co26) := (blk_cell BK154.out 2).trans rfl
                    have hfs36 := blk_frozen BK154.out 2
                    have hns36_0 := NB146_154.out
                    have hms36_0 := NB154_146.out
                    refine skip_ (w1 := ?_) (by rfl) rfl ?_ ?_
                    rotate_left
                    · go_simp
                      rfl
                    refine hK.out _ _ ⟨((cell_far (p := ⟨gb154, _, none⟩) NB146_154.out _).trans (((cell_far (p := ⟨gb154, _, none⟩) NB146_154.out _).trans (((cell_far (p := ⟨gb154, _, none⟩) NB146_154.out _).trans (hHeld.1)))))), ((cell_far (p := ⟨gb154, _, none⟩) NB146_154.out _).trans (((cell_far (p := ⟨gb154, _, none⟩) NB146_154.out _).trans (((cell_far (p := ⟨gb154, _, none⟩) NB146_154.out _).trans (hHeld.2.1)))))), ((cell_far (p := ⟨gb154, _, none⟩) NB146_154.out _).trans (((cell_far (p := ⟨gb154, _, none⟩) NB146_154.out _).trans (((cell_far (p := ⟨gb154, _, none⟩) NB146_154.out _).trans (hHeld.2.2.1)))))), ((cell_far (p := ⟨gb154, _, none⟩) (by first | exact Nat.ne_of_lt (Nat.lt_of_lt_of_le (by have := World.block_lt_of_cell? _ _ hw156_0; first | rwa [add_block] at this | exact this) GW154.out) | (rw [add_block]; exact Nat.ne_of_lt (Nat.lt_of_lt_of_le (by have := World.block_lt_of_cell? _ _ hw156_0; first | rwa [add_block] at this | exact this) GW154.out)) | (show (Addr.add _ _).block ≠ _; rw [add_block]; exact Nat.ne_of_lt (Nat.lt_of_lt_of_le (by have := World.block_lt_of_cell? _ _ hw156_0; first | rwa [add_block] at this | exact this) GW154.out)) | (dsimp only; exact Nat.ne_of_lt (Nat.lt_of_lt_of_le (by have := World.block_lt_of_cell? _ _ hw156_0; first | rwa [add_block] at this | exact this) GW154.out))) _).trans (((cell_far (p := ⟨gb154, _, none⟩) (by first | exact Nat.ne_of_lt (Nat.lt_of_lt_of_le (by have := World.block_lt_of_cell? _ _ hw156_0; first | rwa [add_block] at this | exact this) GW154.out) | (rw [add_block]; exact Nat.ne_of_lt (Nat.lt_of_lt_of_le (by have := World.block_lt_of_cell? _ _ hw156_0; first | rwa [add_block] at this | exact this) GW154.out)) | (show (Addr.add _ _).block ≠ _; rw [add_block]; exact Nat.ne_of_lt (Nat.lt_of_lt_of_le (by have := World.block_lt_of_cell? _ _ hw156_0; first | rwa [add_block] at this | exact this) GW154.out)) | (dsimp only; exact Nat.ne_of_lt (Nat.lt_of_lt_of_le (by have := World.block_lt_of_cell? _ _ hw156_0; first | rwa [add_block] at this | exact this) GW154.out))) _).trans (((cell_far (p := ⟨gb154, _, none⟩) (by first | exact Nat.ne_of_lt (Nat.lt_of_lt_of_le (by have := World.block_lt_of_cell? _ _ hw156_0; first | rwa [add_block] at this | exact this) GW154.out) | (rw [add_block]; exact Nat.ne_of_lt (Nat.lt_of_lt_of_le (by have := World.block_lt_of_cell? _ _ hw156_0; first | rwa [add_block] at this | exact this) GW154.out)) | (show (Addr.add _ _).block ≠ _; rw [add_block]; exact Nat.ne_of_lt (Nat.lt_of_lt_of_le (by have := World.block_lt_of_cell? _ _ hw156_0; first | rwa [add_block] at this | exact this) GW154.out)) | (dsimp only; exact Nat.ne_of_lt (Nat.lt_of_lt_of_le (by have := World.block_lt_of_cell? _ _ hw156_0; first | rwa [add_block] at this | exact this) GW154.out))) _).trans (hHeld.2.2.2))))))⟩ (fun hHeld => ?_)
                    clear hK K
                    refine pure_ (i := 11) (N := some 12) (v := ?_) (a' := ?_) #[true, true, true, true, true, true, true, true, true, true, true, true] rfl rfl (any_of HT_.out (by kernel_rfl)) (fun _ _ _ h => h) (Or.inl ⟨by rfl, ?_⟩) ?_ ?_
                    rotate_left
                    · intro w'
                      go_simp
                      with_reducible rfl
                    rotate_left
                    · simp only [Act.put, List.setIfInBounds_toArray, List.set_cons_zero, List.set_cons_succ, i64_w, i32_w]
                      rfl
                    refine done_ (done_of HT_.out (by kernel_rfl)) ?_
                    try go_wp2
                    go_meet
                    case rel => exact ⟨_, (t162), (t157), (t158), (t159), (.slice Ao35 t159.length co35), (by first | rfl | (simp; done) | (simp [*]; done)), H', ⟨by have := HJ5.out; have := HK2.out; first | omega | exact Nat.le_refl _⟩, ⟨by (with_reducible repeat (first | apply Kd.V_alloc | apply Kd.V_drewN | apply Kd.V_drew)); exact Kd.V_mono (Kd.V_far (p := ⟨gb154, 2, none⟩) (Kd.V_far (p := ⟨gb154, 1, none⟩) (Kd.V_far (p := ⟨gb154, 0, none⟩) (Kd.V_mono HO_147002.out (fun k_ hk => (⟨hk, hk.2⟩ : _ ∧ k_ ≠ gb154))) (fun _ hk => hk.2) (.int .i64 t157)) (fun _ hk => hk.2) (.int .i64 t158)) (fun _ hk => hk.2) (.slice Ao35 t159.length co35)) (fun _ hk => ⟨hk.1.1, hk.1.2⟩)⟩, ⟨by (with_reducible repeat (first | apply Kd.V_alloc | apply Kd.V_drewN | apply Kd.V_drew)); exact Kd.V_mono (Kd.V_far (p := ⟨gb154, 2, none⟩) (Kd.V_far (p := ⟨gb154, 1, none⟩) (Kd.V_far (p := ⟨gb154, 0, none⟩) (Kd.V_mono HO161.out (fun k_ hk => (⟨hk, hk.2⟩ : _ ∧ k_ ≠ gb154))) (fun _ hk => hk.2) (.int .i64 t157)) (fun _ hk => hk.2) (.int .i64 t158)) (fun _ hk => hk.2) (.slice Ao35 t159.length co35)) (fun _ hk => ⟨hk.1.1, hk.1.2⟩)⟩, ⟨by (with_reducible repeat (first | refine blk_drewN ?_ _ | refine blk_drew ?_ | refine blk_alloc ?_ _)); refine blk_far ?_ NB146_154.out _; (with_reducible repeat (first | refine blk_drewN ?_ _ | refine blk_drew ?_ | refine blk_alloc ?_ _)); refine blk_far ?_ NB146_154.out _; (with_reducible repeat (first | refine blk_drewN ?_ _ | refine blk_drew ?_ | refine blk_alloc ?_ _)); refine blk_far ?_ NB146_154.out _; (with_reducible repeat (first | refine blk_drewN ?_ _ | refine blk_drew ?_ | refine blk_alloc ?_ _)); exact BK146.out⟩, ⟨by (with_reducible repeat (first | refine blk_drewN ?_ _ | refine blk_drew ?_ | refine blk_alloc ?_ _)); refine blk_put (cs := #[.int .i64 t157, .int .i64 t158, .slice Ao26 t150.length co26]) ?_ 2 _ rfl; (with_reducible repeat (first | refine blk_drewN ?_ _ | refine blk_drew ?_ | refine blk_alloc ?_ _)); refine blk_put (cs := #[.int .i64 t157, .int .i64 t149, .slice Ao26 t150.length co26]) ?_ 1 _ rfl; (with_reducible repeat (first | refine blk_drewN ?_ _ | refine blk_drew ?_ | refine blk_alloc ?_ _)); refine blk_put (cs := #[.int .i64 t148, .int .i64 t149, .slice Ao26 t150.length co26]) ?_ 0 _ rfl; (with_reducible repeat (first | refine blk_drewN ?_ _ | refine blk_drew ?_ | refine blk_alloc ?_ _)); exact BK154.out⟩, ⟨by repeat (first | (with_reducible first | exact HB.out | apply below_alloc | apply pw_below_drewN | apply below_drew1 | refine below_set ?_ GE146.out | refine below_set ?_ GE154.out) | exact HB.out)⟩⟩
                  · rw [if_neg c28] at H
                    have c28b0 : decide ((rd l2 x10_2) < 0) = false := decide_eq_false c28
                    clear c28
                    (first | rw [c28b0] | (simp only [i64_w, i32_w]; rw [c28b0]) | skip)
                    have H' := Aside0.mk H
                    clear H
                    go_wp2
                    go_meet
                    case rel => exact ⟨_, (t153), (t148), (t149), (t150), (.slice Ao26 t150.length co26), (by first | rfl | (simp; done) | (simp [*]; done)), H', ⟨by have := HJ5.out; have := HK2.out; first | omega | exact Nat.le_refl _⟩, ⟨by (with_reducible repeat (first | apply Kd.V_alloc | apply Kd.V_drewN | apply Kd.V_drew)); exact Kd.V_mono (Kd.V_far (p := ⟨gb154, 2, none⟩) (Kd.V_far (p := ⟨gb154, 1, none⟩) (Kd.V_far (p := ⟨gb154, 0, none⟩) (Kd.V_mono HO_147002.out (fun k_ hk => (⟨hk, hk.2⟩ : _ ∧ k_ ≠ gb154))) (fun _ hk => hk.2) (.int .i64 t148)) (fun _ hk => hk.2) (.int .i64 t149)) (fun _ hk => hk.2) (.slice Ao26 t150.length co26)) (fun _ hk => ⟨hk.1.1, hk.1.2⟩)⟩, ⟨by (with_reducible repeat (first | apply Kd.V_alloc | apply Kd.V_drewN | apply Kd.V_drew)); exact Kd.V_mono (Kd.V_far (p := ⟨gb154, 2, none⟩) (Kd.V_far (p := ⟨gb154, 1, none⟩) (Kd.V_far (p := ⟨gb154, 0, none⟩) (Kd.V_mono HO152.out (fun k_ hk => (⟨hk, hk.2⟩ : _ ∧ k_ ≠ gb154))) (fun _ hk => hk.2) (.int .i64 t148)) (fun _ hk => hk.2) (.int .i64 t149)) (fun _ hk => hk.2) (.slice Ao26 t150.length co26)) (fun _ hk => ⟨hk.1.1, hk.1.2⟩)⟩, ⟨by (with_reducible repeat (first | refine blk_drewN ?_ _ | refine blk_drew ?_ | refine blk_alloc ?_ _)); refine blk_far ?_ NB146_154.out _; (with_reducible repeat (first | refine blk_drewN ?_ _ | refine blk_drew ?_ | refine blk_alloc ?_ _)); refine blk_far ?_ NB146_154.out _; (with_reducible repeat (first | refine blk_drewN ?_ _ | refine blk_drew ?_ | refine blk_alloc ?_ _)); refine blk_far ?_ NB146_154.out _; (with_reducible repeat (first | refine blk_drewN ?_ _ | refine blk_drew ?_ | refine blk_alloc ?_ _)); exact BK146.out⟩, ⟨by (with_reducible repeat (first | refine blk_drewN ?_ _ | refine blk_drew ?_ | refine blk_alloc ?_ _)); refine blk_put (cs := #[.int .i64 t148, .int .i64 t149, .slice none 0 0]) ?_ 2 _ rfl; (with_reducible repeat (first | refine blk_drewN ?_ _ | refine blk_drew ?_ | refine blk_alloc ?_ _)); refine blk_put (cs := #[.int .i64 t148, .int .i64 0, .slice none 0 0]) ?_ 1 _ rfl; (with_reducible repeat (first | refine blk_drewN ?_ _ | refine blk_drew ?_ | refine blk_alloc ?_ _)); refine blk_put (cs := #[.int .i64 0, .int .i64 0, .slice none 0 0]) ?_ 0 _ rfl; (with_reducible repeat (first | refine blk_drewN ?_ _ | refine blk_drew ?_ | refine blk_alloc ?_ _)); exact BK154.out⟩, ⟨by repeat (first | (with_reducible first | exact HB.out | apply below_alloc | apply pw_below_drewN | apply below_drew1 | refine below_set ?_ GE146.out | refine below_set ?_ GE154.out) | exact HB.out)⟩⟩
                case rest =>
                  clear HC18
                  try clear c1
                  try clear p1
                  try clear q1
                  try clear hx1
                  try clear c2
                  try clear p2
                  try clear c4
                  try clear p6
                  try clear c8
                  try clear c9
                  try clear c11
                  try clear c12
                  try clear c13
                  try clear c13b0
                  try clear c13b1
                  try clear c14
                  try clear p14
                  try clear q14
                  try clear hx14
                  try clear c15
                  try clear c15b0
                  try clear p15
                  try clear q15
                  try clear hx15
                  try clear c16
                  try clear c16b0
                  try clear c28
                  try clear c28b0
                  try clear hcz10_0
                  try clear hcz10_1
                  try clear hcz10_2
                  try clear hfz10_0
                  try clear hfz10_1
                  try clear hfz10_2
                  try clear hx147_0
                  try clear hx155_0
                  try clear hx156_0
                  try clear p147
                  try clear p155
                  try clear p156
                  try clear p2
                  try clear q147
                  try clear q155
                  try clear q156
                  obtain ⟨kq, x12_17, x155000_17, x155001_17, x155002_17, u155002, rfl, HA, HJ17, HO_147002, HO_155002, BK146, BK154, HB⟩ := hcut
                  cases kq with
                  | zero => exact absurd HA.out (by simp [colloquylaw15_PeopleOwner.j2])
                  | succ kj17 =>
                    have H := HA.out
                    clear HA
                    simp only [colloquylaw15_PeopleOwner.j2] at H
                    have HC37 := Aside0.mk H
                    clear H
                    go_upto_if 63 with (fail)
                    go_cut [] (fun wc => ∃ (kq : Nat) (x147000_36 : Int) (x147001_36 : Int) (x147002_36 : List Int) (u147002 : Value), Aside0 (colloquylaw15_PeopleOwner.j3 kq a0 a1 l2 x10_2 x147000_36 x147001_36 x147002_36 = some r) ∧ Aside0 (kq ≤ kj17) ∧ Aside0 (Kd.V (Kd.int .i64) 3 wc w.heap.size (fun k_ => k_ ≠ gb146 ∧ k_ ≠ gb154) u147002 x147002_36) ∧ Aside0 (Kd.V (Kd.int .i64) 3 wc w.heap.size (fun k_ => k_ ≠ gb146 ∧ k_ ≠ gb154) u155002 x155002_17) ∧ Aside0 (wc.heap[gb146]? = some (.cells #[.int .i64 x147000_36, .int .i64 x147001_36, u147002] 24 (0, 0))) ∧ Aside0 (wc.heap[gb154]? = some (.cells #[.int .i64 x155000_17, .int .i64 x155001_17, u155002] 24 (0, 0))) ∧ Aside0 (Below w.heap.size w wc))
                    case first =>
                      have H := HC37.out
                      clear HC37
                      by_cases c38 : x12_17 = 0
                      · rw [if_pos c38] at H
                        have c38b0 : (x12_17 == 0) = true := beq_iff_eq.mpr c38
                        have c38b1 : (x12_17 != 0) = false := bne_eq_false_iff_eq.mpr c38
                        clear c38
                        (first | rw [c38b0] | (simp only [i64_w, i32_w]; rw [c38b0]) | skip)
                        have H' := Aside0.mk H
                        clear H
                        have hnb39 := NB154_146.out
                        have hnc39 := NB146_154.out
                        have hcz40_0 : wc.cell? ⟨gb154, 0, none⟩ = some (.int .i64 x155000_17) := (blk_cell BK154.out 0).trans rfl
                        have hcz40_1 : wc.cell? ⟨gb154, 1, none⟩ = some (.int .i64 x155001_17) := (blk_cell BK154.out 1).trans rfl
                        have hcz40_2 : wc.cell? ⟨gb154, 2, none⟩ = some (u155002) := (blk_cell BK154.out 2).trans rfl
                        have hfz40_0 := blk_frozen BK154.out 0
                        have hfz40_1 := blk_frozen BK154.out 1
                        have hfz40_2 := blk_frozen BK154.out 2
                        have hcz41_0 : wc.cell? ⟨gb146, 0, none⟩ = some (.int .i64 x147000_2) := (blk_cell BK146.out 0).trans rfl
                        have hcz41_1 : wc.cell? ⟨gb146, 1, none⟩ = some (.int .i64 x147001_2) := (blk_cell BK146.out 1).trans rfl
                        have hcz41_2 : wc.cell? ⟨gb146, 2, none⟩ = some (.slice Ao19 x147002_2.length co19) := (blk_cell BK146.out 2).trans rfl
                        have hfz41_0 := blk_frozen BK146.out 0
                        have hfz41_1 := blk_frozen BK146.out 1
                        have hfz41_2 := blk_frozen BK146.out 2
                        obtain ⟨Ao42, co42, eo42⟩ := Kd.V_slice HO_155002.out
                        subst eo42
                        go_wp2
                        go_meet
                        case rel => exact ⟨_, (x155000_17), (x155001_17), (x155002_17), (.slice Ao42 x155002_17.length co42), H', ⟨by have := HJ5.out; have := HK2.out; have := HJ17.out; first | omega | exact Nat.le_refl _⟩, ⟨by (with_reducible repeat (first | apply Kd.V_alloc | apply Kd.V_drewN | apply Kd.V_drew)); exact Kd.V_mono (Kd.V_far (p := ⟨gb146, 2, none⟩) (Kd.V_far (p := ⟨gb146, 1, none⟩) (Kd.V_far (p := ⟨gb146, 0, none⟩) (Kd.V_mono HO_155002.out (fun k_ hk => (⟨hk, hk.1⟩ : _ ∧ k_ ≠ gb146))) (fun _ hk => hk.2) (.int .i64 x155000_17)) (fun _ hk => hk.2) (.int .i64 x155001_17)) (fun _ hk => hk.2) (.slice Ao42 x155002_17.length co42)) (fun _ hk => ⟨hk.1.1, hk.1.2⟩)⟩, ⟨by (with_reducible repeat (first | apply Kd.V_alloc | apply Kd.V_drewN | apply Kd.V_drew)); exact Kd.V_mono (Kd.V_far (p := ⟨gb146, 2, none⟩) (Kd.V_far (p := ⟨gb146, 1, none⟩) (Kd.V_far (p := ⟨gb146, 0, none⟩) (Kd.V_mono HO_155002.out (fun k_ hk => (⟨hk, hk.1⟩ : _ ∧ k_ ≠ gb146))) (fun _ hk => hk.2) (.int .i64 x155000_17)) (fun _ hk => hk.2) (.int .i64 x155001_17)) (fun _ hk => hk.2) (.slice Ao42 x155002_17.length co42)) (fun _ hk => ⟨hk.1.1, hk.1.2⟩)⟩, ⟨by (with_reducible repeat (first | refine blk_drewN ?_ _ | refine blk_drew ?_ | refine blk_alloc ?_ _)); refine blk_put (cs := #[.int .i64 x155000_17, .int .i64 x155001_17, .slice Ao19 x147002_2.length co19]) ?_ 2 _ rfl; (with_reducible repeat (first | refine blk_drewN ?_ _ | refine blk_drew ?_ | refine blk_alloc ?_ _)); refine blk_put (cs := #[.int .i64 x155000_17, .int .i64 x147001_2, .slice Ao19 x147002_2.length co19]) ?_ 1 _ rfl; (with_reducible repeat (first | refine blk_drewN ?_ _ | refine blk_drew ?_ | refine blk_alloc ?_ _)); refine blk_put (cs := #[.int .i64 x147000_2, .int .i64 x147001_2, .slice Ao19 x147002_2.length co19]) ?_ 0 _ rfl; (with_reducible repeat (first | refine blk_drewN ?_ _ | refine blk_drew ?_ | refine blk_alloc ?_ _)); exact BK146.out⟩, ⟨by (with_reducible repeat (first | refine blk_drewN ?_ _ | refine blk_drew ?_ | refine blk_alloc ?_ _)); refine blk_far ?_ NB154_146.out _; (with_reducible repeat (first | refine blk_drewN ?_ _ | refine blk_drew ?_ | refine blk_alloc ?_ _)); refine blk_far ?_ NB154_146.out _; (with_reducible repeat (first | refine blk_drewN ?_ _ | refine blk_drew ?_ | refine blk_alloc ?_ _)); refine blk_far ?_ NB154_146.out _; (with_reducible repeat (first | refine blk_drewN ?_ _ | refine blk_drew ?_ | refine blk_alloc ?_ _)); exact BK154.out⟩, ⟨by repeat (first | (with_reducible first | exact HB.out | apply below_alloc | apply pw_below_drewN | apply below_drew1 | refine below_set ?_ GE146.out | refine below_set ?_ GE154.out) | exact HB.out)⟩⟩
                      · rw [if_neg c38] at H
                        have c38b0 : (x12_17 == 0) = false := beq_eq_false_iff_ne.mpr c38
                        have c38b1 : (x12_17 != 0) = true := bne_iff_ne.mpr c38
                        (first | rw [c38b0] | (simp only [i64_w, i32_w]; rw [c38b0]) | skip)
                        have H' := Aside0.mk H
                        clear H
                        go_wp2
                        go_meet
                        case rel => exact ⟨_, (x147000_2), (x147001_2), (x147002_2), (.slice Ao19 x147002_2.length co19), H', ⟨by have := HJ5.out; have := HK2.out; have := HJ17.out; first | omega | exact Nat.le_refl _⟩, ⟨by (with_reducible repeat (first | apply Kd.V_alloc | apply Kd.V_drewN | apply Kd.V_drew)); exact HO_147002.out⟩, ⟨by (with_reducible repeat (first | apply Kd.V_alloc | apply Kd.V_drewN | apply Kd.V_drew)); exact HO_155002.out⟩, ⟨by (with_reducible repeat (first | refine blk_drewN ?_ _ | refine blk_drew ?_ | refine blk_alloc ?_ _)); exact BK146.out⟩, ⟨by (with_reducible repeat (first | refine blk_drewN ?_ _ | refine blk_drew ?_ | refine blk_alloc ?_ _)); exact BK154.out⟩, ⟨by repeat (first | (with_reducible first | exact HB.out | apply below_alloc | apply pw_below_drewN | apply below_drew1 | refine below_set ?_ GE146.out | refine below_set ?_ GE154.out) | exact HB.out)⟩⟩
                    case rest =>
                      clear HC37
                      try clear c1
                      try clear p1
                      try clear q1
                      try clear hx1
                      try clear c2
                      try clear p2
                      try clear c3
                      try clear c4
                      try clear p6
                      try clear c8
                      try clear c9
                      try clear c11
                      try clear c12
                      try clear c13
                      try clear c13b0
                      try clear c13b1
                      try clear c14
                      try clear p14
                      try clear q14
                      try clear hx14
                      try clear c15
                      try clear c15b0
                      try clear p15
                      try clear q15
                      try clear hx15
                      try clear c16
                      try clear c16b0
                      try clear c28
                      try clear c28b0
                      try clear c38
                      try clear c38b0
                      try clear c38b1
                      try clear c39
                      try clear hcz10_0
                      try clear hcz10_1
                      try clear hcz10_2
                      try clear hcz40_0
                      try clear hcz40_1
                      try clear hcz40_2
                      try clear hcz41_0
                      try clear hcz41_1
                      try clear hcz41_2
                      try clear hfz10_0
                      try clear hfz10_1
                      try clear hfz10_2
                      try clear hfz40_0
                      try clear hfz40_1
                      try clear hfz40_2
                      try clear hfz41_0
                      try clear hfz41_1
                      try clear hfz41_2
                      try clear hx147_0
                      try clear hx155_0
                      try clear hx156_0
                      try clear p1
                      try clear p14
                      try clear p147
                      try clear p15
                      try clear p155
                      try clear p156
                      try clear p2
                      try clear p6
                      try clear q1
                      try clear q14
                      try clear q147
                      try clear q15
                      try clear q155
                      try clear q156
                      obtain ⟨kq, x147000_36, x147001_36, x147002_36, u147002, HA, HJ36, HO_147002, HO_155002, BK146, BK154, HB⟩ := hcut
                      cases kq with
                      | zero => exact absurd HA.out (by simp [colloquylaw15_PeopleOwner.j3])
                      | succ kj36 =>
                        have H := HA.out
                        clear HA
                        simp only [colloquylaw15_PeopleOwner.j3] at H
                        replace H := Option.bind_eq_some_iff.mp H
                        obtain ⟨t163, A430, H⟩ := H
                        replace H : (if t163 = true then ((people_In.f kj36 x147000_36 x147001_36 x147002_36 a1).bind fun t164 => (if t164 = true then (if x147001_36 = a1 then (if x147000_36 = a0 then (colloquylaw15_PeopleOwner.l0 kj36 a0 a1 l2 (wrap64 (x10_2 + 1)) x147000_36 x147001_36 x147002_36) else (some false)) else (some false)) else (some false))) else (some false)) = some r := H
                        have A43 := Aside0.mk A430
                        clear A430
                        by_cases c44 : t163 = true
                        · subst c44
                          have H1 : ((people_In.f kj36 x147000_36 x147001_36 x147002_36 a1).bind fun t164 => (if t164 = true then (if x147001_36 = a1 then (if x147000_36 = a0 then (colloquylaw15_PeopleOwner.l0 kj36 a0 a1 l2 (wrap64 (x10_2 + 1)) x147000_36 x147001_36 x147002_36) else (some false)) else (some false)) else (some false))) = some r := by rw [if_pos rfl] at H; exact H
                          clear H
                          have H := H1
                          clear H1
                          replace H := Option.bind_eq_some_iff.mp H
                          obtain ⟨t164, A450, H⟩ := H
                          replace H : (if t164 = true then (if x147001_36 = a1 then (if x147000_36 = a0 then (colloquylaw15_PeopleOwner.l0 kj36 a0 a1 l2 (wrap64 (x10_2 + 1)) x147000_36 x147001_36 x147002_36) else (some false)) else (some false)) else (some false)) = some r := H
                          have A45 := Aside0.mk A450
                          clear A450
                          by_cases c46 : t164 = true
                          · subst c46
                            have H1 : (if x147001_36 = a1 then (if x147000_36 = a0 then (colloquylaw15_PeopleOwner.l0 kj36 a0 a1 l2 (wrap64 (x10_2 + 1)) x147000_36 x147001_36 x147002_36) else (some false)) else (some false)) = some r := by rw [if_pos rfl] at H; exact H
                            clear H
                            have H := H1
                            clear H1
                            by_cases c47 : x147001_36 = a1
                            · rw [if_pos c47] at H
                              have c47b0 : (x147001_36 == a1) = true := beq_iff_eq.mpr c47
                              have c47b1 : (x147001_36 != a1) = false := bne_eq_false_iff_eq.mpr c47
                              clear c47
                              by_cases c48 : x147000_36 = a0
                              · rw [if_pos c48] at H
                                have c48b0 : (x147000_36 == a0) = true := beq_iff_eq.mpr c48
                                have c48b1 : (x147000_36 != a0) = false := bne_eq_false_iff_eq.mpr c48
                                clear c48
                                have H' := Aside0.mk H
                                clear H
                                have hnb49 := NB146_154.out
                                have hnc49 := NB154_146.out
                                have hcz50_0 : wc.cell? ⟨gb146, 0, none⟩ = some (.int .i64 x147000_36) := (blk_cell BK146.out 0).trans rfl
                                have hcz50_1 : wc.cell? ⟨gb146, 1, none⟩ = some (.int .i64 x147001_36) := (blk_cell BK146.out 1).trans rfl
                                have hcz50_2 : wc.cell? ⟨gb146, 2, none⟩ = some (u147002) := (blk_cell BK146.out 2).trans rfl
                                have hfz50_0 := blk_frozen BK146.out 0
                                have hfz50_1 := blk_frozen BK146.out 1
                                have hfz50_2 := blk_frozen BK146.out 2
                                obtain ⟨Ao51, co51, eo51⟩ := Kd.V_slice HO_147002.out
                                subst eo51
                                go_wp2_with (first | ((with_reducible refine gate_callee (f := 16) rfl ?_); refine goesL_ (some 66) rfl rfl Try.func16 (by kernel_rfl) rfl #[.agg #[.int .i64 x147000_36, .int .i64 x147001_36, .slice Ao51 x147002_36.length co51]] rfl (by (try simp only [List.map_toArray, List.map_cons, List.map_nil]); first | done | rfl | (simp only [List.length_drop, List.length_take]; rfl)) ?_; (with_reducible refine (people_May.calls kj36 x147000_36 x147001_36 _ _ x147002_36 true _ ?side1 ?side2 A43.out).mono ?_); (case side1 => repeat (first | exact (Kd.V_reads' HO_147002.out).2.2 | (with_reducible refine Kd.C_alloc ?_ _) | (with_reducible refine Kd.C_drewN ?_ _) | (with_reducible refine Kd.C_drew ?_))); (case side2 => exact (Kd.V_reads' HO_147002.out).2.1); rintro e w52 ⟨rfl, hb⟩; refine ⟨_, rfl, ?_⟩; have n0_ := Aside0.mk (Kd.V_below (by (with_reducible repeat (first | apply Kd.V_alloc | apply Kd.V_drewN | apply Kd.V_drew)); exact HO_147002.out) hb); have n1_ := Aside0.mk (Kd.V_below (by (with_reducible repeat (first | apply Kd.V_alloc | apply Kd.V_drewN | apply Kd.V_drew)); exact HO_155002.out) hb); have n2_ := Aside0.mk (blk_below (g := gb146) (o := .cells #[.int .i64 x147000_36, .int .i64 x147001_36, .slice Ao51 x147002_36.length co51] 24 (0, 0)) (by (with_reducible repeat (first | refine blk_drewN ?_ _ | refine blk_drew ?_ | refine blk_alloc ?_ _)); exact BK146.out) hb); have n3_ := Aside0.mk (blk_below (g := gb154) (o := .cells #[.int .i64 x155000_17, .int .i64 x155001_17, u155002] 24 (0, 0)) (by (with_reducible repeat (first | refine blk_drewN ?_ _ | refine blk_drew ?_ | refine blk_alloc ?_ _)); exact BK154.out) hb); have n4_ := Aside0.mk (below_step (by repeat (first | (with_reducible first | exact HB.out | apply below_alloc | apply pw_below_drewN | apply below_drew1 | refine below_set ?_ GE146.out | refine below_set ?_ GE154.out) | exact HB.out)) hb); clear HO_147002; clear HO_155002; clear BK146; clear BK154; clear HB; have HO_147002 := n0_; have HO_155002 := n1_; have BK146 := n2_; have BK154 := n3_; have HB := n4_; clear n0_ n1_ n2_ n3_ n4_; (try clear hb); (try clear hb2); (try clear hk); (try clear hi); have hcz53_0 : w52.cell? ⟨gb146, 0, none⟩ = some (.int .i64 x147000_36) := (blk_cell BK146.out 0).trans rfl; have hcz53_1 : w52.cell? ⟨gb146, 1, none⟩ = some (.int .i64 x147001_36) := (blk_cell BK146.out 1).trans rfl; have hcz53_2 : w52.cell? ⟨gb146, 2, none⟩ = some (.slice Ao51 x147002_36.length co51) := (blk_cell BK146.out 2).trans rfl; have hfz53_0 := blk_frozen BK146.out 0; have hfz53_1 := blk_frozen BK146.out 1; have hfz53_2 := blk_frozen BK146.out 2) | (go_at_call 18; (with_reducible refine (people_In.calls kj36 x147000_36 x147001_36 _ _ x147002_36 a1 true _ ?side1 ?side2 A45.out).mono ?_); (case side1 => repeat (first | exact (Kd.V_reads' HO_147002.out).2.2 | (with_reducible refine Kd.C_alloc ?_ _) | (with_reducible refine Kd.C_drewN ?_ _) | (with_reducible refine Kd.C_drew ?_))); (case side2 => exact (Kd.V_reads' HO_147002.out).2.1); rintro e w54 ⟨rfl, hb⟩; have n0_ := Aside0.mk (Kd.V_below (by (with_reducible repeat (first | apply Kd.V_alloc | apply Kd.V_drewN | apply Kd.V_drew)); exact HO_147002.out) hb); have n1_ := Aside0.mk (Kd.V_below (by (with_reducible repeat (first | apply Kd.V_alloc | apply Kd.V_drewN | apply Kd.V_drew)); exact HO_155002.out) hb); have n2_ := Aside0.mk (blk_below (g := gb146) (o := .cells #[.int .i64 x147000_36, .int .i64 x147001_36, .slice Ao51 x147002_36.length co51] 24 (0, 0)) (by (with_reducible repeat (first | refine blk_drewN ?_ _ | refine blk_drew ?_ | refine blk_alloc ?_ _)); exact BK146.out) hb); have n3_ := Aside0.mk (blk_below (g := gb154) (o := .cells #[.int .i64 x155000_17, .int .i64 x155001_17, u155002] 24 (0, 0)) (by (with_reducible repeat (first | refine blk_drewN ?_ _ | refine blk_drew ?_ | refine blk_alloc ?_ _)); exact BK154.out) hb); have n4_ := Aside0.mk (below_step (by repeat (first | (with_reducible first | exact HB.out | apply below_alloc | apply pw_below_drewN | apply below_drew1 | refine below_set ?_ GE146.out | refine below_set ?_ GE154.out) | exact HB.out)) hb); clear HO_147002; clear HO_155002; clear BK146; clear BK154; clear HB; have HO_147002 := n0_; have HO_155002 := n1_; have BK146 := n2_; have BK154 := n3_; have HB := n4_; clear n0_ n1_ n2_ n3_ n4_; (try clear hb); (try clear hb2); (try clear hk); (try clear hi); have hcz55_0 : w54.cell? ⟨gb146, 0, none⟩ = some (.int .i64 x147000_36) := (blk_cell BK146.out 0).trans rfl; have hcz55_1 : w54.cell? ⟨gb146, 1, none⟩ = some (.int .i64 x147001_36) := (blk_cell BK146.out 1).trans rfl; have hcz55_2 : w54.cell? ⟨gb146, 2, none⟩ = some (.slice Ao51 x147002_36.length co51) := (blk_cell BK146.out 2).trans rfl; have hfz55_0 := blk_frozen BK146.out 0; have hfz55_1 := blk_frozen BK146.out 1; have hfz55_2 := blk_frozen BK146.out 2))
                                go_roundg kj36
                                case measure => have := HJ5.out; have := HK2.out; have := HJ17.out; have := HJ36.out; omega
                                case rel => exact ⟨(wrap64 (x10_2 + 1)), (x147000_36), (x147001_36), (x147002_36), (.slice Ao51 x147002_36.length co51), (by first | rfl | (simp; done) | (simp [*]; done)), H', ⟨by have := HJ5.out; have := HK2.out; have := HJ17.out; have := HJ36.out; omega⟩, ⟨by (with_reducible repeat (first | apply Kd.V_alloc | apply Kd.V_drewN | apply Kd.V_drew)); exact Kd.V_mono HO_147002.out (fun _ hk => hk.1)⟩, ⟨by (with_reducible repeat (first | refine blk_drewN ?_ _ | refine blk_drew ?_ | refine blk_alloc ?_ _)); exact BK146.out⟩, ⟨by repeat (first | (with_reducible first | exact HB.out | apply below_alloc | apply pw_below_drewN | apply below_drew1 | refine below_set ?_ GE146.out | refine below_set ?_ GE154.out) | exact HB.out)⟩⟩
                              · rw [if_neg c48] at H
                                have c48b0 : (x147000_36 == a0) = false := beq_eq_false_iff_ne.mpr c48
                                have c48b1 : (x147000_36 != a0) = true := bne_iff_ne.mpr c48
                                obtain rfl := Option.some.inj H
                                have hnb56 := NB146_154.out
                                have hnc56 := NB154_146.out
                                have hcz57_0 : wc.cell? ⟨gb146, 0, none⟩ = some (.int .i64 x147000_36) := (blk_cell BK146.out 0).trans rfl
                                have hcz57_1 : wc.cell? ⟨gb146, 1, none⟩ = some (.int .i64 x147001_36) := (blk_cell BK146.out 1).trans rfl
                                have hcz57_2 : wc.cell? ⟨gb146, 2, none⟩ = some (u147002) := (blk_cell BK146.out 2).trans rfl
                                have hfz57_0 := blk_frozen BK146.out 0
                                have hfz57_1 := blk_frozen BK146.out 1
                                have hfz57_2 := blk_frozen BK146.out 2
                                obtain ⟨Ao58, co58, eo58⟩ := Kd.V_slice HO_147002.out
                                subst eo58
                                go_wp2_with (first | ((with_reducible refine gate_callee (f := 16) rfl ?_); refine goesL_ (some 66) rfl rfl Try.func16 (by kernel_rfl) rfl #[.agg #[.int .i64 x147000_36, .int .i64 x147001_36, .slice Ao58 x147002_36.length co58]] rfl (by (try simp only [List.map_toArray, List.map_cons, List.map_nil]); first | done | rfl | (simp only [List.length_drop, List.length_take]; rfl)) ?_; (with_reducible refine (people_May.calls kj36 x147000_36 x147001_36 _ _ x147002_36 true _ ?side1 ?side2 A43.out).mono ?_); (case side1 => repeat (first | exact (Kd.V_reads' HO_147002.out).2.2 | (with_reducible refine Kd.C_alloc ?_ _) | (with_reducible refine Kd.C_drewN ?_ _) | (with_reducible refine Kd.C_drew ?_))); (case side2 => exact (Kd.V_reads' HO_147002.out).2.1); rintro e w59 ⟨rfl, hb⟩; refine ⟨_, rfl, ?_⟩; have n0_ := Aside0.mk (Kd.V_below (by (with_reducible repeat (first | apply Kd.V_alloc | apply Kd.V_drewN | apply Kd.V_drew)); exact HO_147002.out) hb); have n1_ := Aside0.mk (Kd.V_below (by (with_reducible repeat (first | apply Kd.V_alloc | apply Kd.V_drewN | apply Kd.V_drew)); exact HO_155002.out) hb); have n2_ := Aside0.mk (blk_below (g := gb146) (o := .cells #[.int .i64 x147000_36, .int .i64 x147001_36, .slice Ao58 x147002_36.length co58] 24 (0, 0)) (by (with_reducible repeat (first | refine blk_drewN ?_ _ | refine blk_drew ?_ | refine blk_alloc ?_ _)); exact BK146.out) hb); have n3_ := Aside0.mk (blk_below (g := gb154) (o := .cells #[.int .i64 x155000_17, .int .i64 x155001_17, u155002] 24 (0, 0)) (by (with_reducible repeat (first | refine blk_drewN ?_ _ | refine blk_drew ?_ | refine blk_alloc ?_ _)); exact BK154.out) hb); have n4_ := Aside0.mk (below_step (by repeat (first | (with_reducible first | exact HB.out | apply below_alloc | apply pw_below_drewN | apply below_drew1 | refine below_set ?_ GE146.out | refine below_set ?_ GE154.out) | exact HB.out)) hb); clear HO_147002; clear HO_155002; clear BK146; clear BK154; clear HB; have HO_147002 := n0_; have HO_155002 := n1_; have BK146 := n2_; have BK154 := n3_; have HB := n4_; clear n0_ n1_ n2_ n3_ n4_; (try clear hb); (try clear hb2); (try clear hk); (try clear hi); have hcz60_0 : w59.cell? ⟨gb146, 0, none⟩ = some (.int .i64 x147000_36) := (blk_cell BK146.out 0).trans rfl; have hcz60_1 : w59.cell? ⟨gb146, 1, none⟩ = some (.int .i64 x147001_36) := (blk_cell BK146.out 1).trans rfl; have hcz60_2 : w59.cell? ⟨gb146, 2, none⟩ = some (.slice Ao58 x147002_36.length co58) := (blk_cell BK146.out 2).trans rfl; have hfz60_0 := blk_frozen BK146.out 0; have hfz60_1 := blk_frozen BK146.out 1; have hfz60_2 := blk_frozen BK146.out 2) | (go_at_call 18; (with_reducible refine (people_In.calls kj36 x147000_36 x147001_36 _ _ x147002_36 a1 true _ ?side1 ?side2 A45.out).mono ?_); (case side1 => repeat (first | exact (Kd.V_reads' HO_147002.out).2.2 | (with_reducible refine Kd.C_alloc ?_ _) | (with_reducible refine Kd.C_drewN ?_ _) | (with_reducible refine Kd.C_drew ?_))); (case side2 => exact (Kd.V_reads' HO_147002.out).2.1); rintro e w61 ⟨rfl, hb⟩; have n0_ := Aside0.mk (Kd.V_below (by (with_reducible repeat (first | apply Kd.V_alloc | apply Kd.V_drewN | apply Kd.V_drew)); exact HO_147002.out) hb); have n1_ := Aside0.mk (Kd.V_below (by (with_reducible repeat (first | apply Kd.V_alloc | apply Kd.V_drewN | apply Kd.V_drew)); exact HO_155002.out) hb); have n2_ := Aside0.mk (blk_below (g := gb146) (o := .cells #[.int .i64 x147000_36, .int .i64 x147001_36, .slice Ao58 x147002_36.length co58] 24 (0, 0)) (by (with_reducible repeat (first | refine blk_drewN ?_ _ | refine blk_drew ?_ | refine blk_alloc ?_ _)); exact BK146.out) hb); have n3_ := Aside0.mk (blk_below (g := gb154) (o := .cells #[.int .i64 x155000_17, .int .i64 x155001_17, u155002] 24 (0, 0)) (by (with_reducible repeat (first | refine blk_drewN ?_ _ | refine blk_drew ?_ | refine blk_alloc ?_ _)); exact BK154.out) hb); have n4_ := Aside0.mk (below_step (by repeat (first | (with_reducible first | exact HB.out | apply below_alloc | apply pw_below_drewN | apply below_drew1 | refine below_set ?_ GE146.out | refine below_set ?_ GE154.out) | exact HB.out)) hb); clear HO_147002; clear HO_155002; clear BK146; clear BK154; clear HB; have HO_147002 := n0_; have HO_155002 := n1_; have BK146 := n2_; have BK154 := n3_; have HB := n4_; clear n0_ n1_ n2_ n3_ n4_; (try clear hb); (try clear hb2); (try clear hk); (try clear hi); have hcz62_0 : w61.cell? ⟨gb146, 0, none⟩ = some (.int .i64 x147000_36) := (blk_cell BK146.out 0).trans rfl; have hcz62_1 : w61.cell? ⟨gb146, 1, none⟩ = some (.int .i64 x147001_36) := (blk_cell BK146.out 1).trans rfl; have hcz62_2 : w61.cell? ⟨gb146, 2, none⟩ = some (.slice Ao58 x147002_36.length co58) := (blk_cell BK146.out 2).trans rfl; have hfz62_0 := blk_frozen BK146.out 0; have hfz62_1 := blk_frozen BK146.out 1; have hfz62_2 := blk_frozen BK146.out 2))
                                go_ret
                                exact ⟨by first | rfl | (simp [errW_none, errW_some] <;> rfl) | (simp [*, errW_none, errW_some] <;> rfl), by repeat (first | (with_reducible first | exact HB.out | apply below_alloc | apply pw_below_drewN | apply below_drew1 | refine below_set ?_ GE146.out | refine below_set ?_ GE154.out) | exact HB.out)⟩
                            · rw [if_neg c47] at H
                              have c47b0 : (x147001_36 == a1) = false := beq_eq_false_iff_ne.mpr c47
                              have c47b1 : (x147001_36 != a1) = true := bne_iff_ne.mpr c47
                              obtain rfl := Option.some.inj H
                              have hnb63 := NB146_154.out
                              have hnc63 := NB154_146.out
                              have hcz64_0 : wc.cell? ⟨gb146, 0, none⟩ = some (.int .i64 x147000_36) := (blk_cell BK146.out 0).trans rfl
                              have hcz64_1 : wc.cell? ⟨gb146, 1, none⟩ = some (.int .i64 x147001_36) := (blk_cell BK146.out 1).trans rfl
                              have hcz64_2 : wc.cell? ⟨gb146, 2, none⟩ = some (u147002) := (blk_cell BK146.out 2).trans rfl
                              have hfz64_0 := blk_frozen BK146.out 0
                              have hfz64_1 := blk_frozen BK146.out 1
                              have hfz64_2 := blk_frozen BK146.out 2
                              obtain ⟨Ao65, co65, eo65⟩ := Kd.V_slice HO_147002.out
                              subst eo65
                              go_wp2_with (first | ((with_reducible refine gate_callee (f := 16) rfl ?_); refine goesL_ (some 66) rfl rfl Try.func16 (by kernel_rfl) rfl #[.agg #[.int .i64 x147000_36, .int .i64 x147001_36, .slice Ao65 x147002_36.length co65]] rfl (by (try simp only [List.map_toArray, List.map_cons, List.map_nil]); first | done | rfl | (simp only [List.length_drop, List.length_take]; rfl)) ?_; (with_reducible refine (people_May.calls kj36 x147000_36 x147001_36 _ _ x147002_36 true _ ?side1 ?side2 A43.out).mono ?_); (case side1 => repeat (first | exact (Kd.V_reads' HO_147002.out).2.2 | (with_reducible refine Kd.C_alloc ?_ _) | (with_reducible refine Kd.C_drewN ?_ _) | (with_reducible refine Kd.C_drew ?_))); (case side2 => exact (Kd.V_reads' HO_147002.out).2.1); rintro e w66 ⟨rfl, hb⟩; refine ⟨_, rfl, ?_⟩; have n0_ := Aside0.mk (Kd.V_below (by (with_reducible repeat (first | apply Kd.V_alloc | apply Kd.V_drewN | apply Kd.V_drew)); exact HO_147002.out) hb); have n1_ := Aside0.mk (Kd.V_below (by (with_reducible repeat (first | apply Kd.V_alloc | apply Kd.V_drewN | apply Kd.V_drew)); exact HO_155002.out) hb); have n2_ := Aside0.mk (blk_below (g := gb146) (o := .cells #[.int .i64 x147000_36, .int .i64 x147001_36, .slice Ao65 x147002_36.length co65] 24 (0, 0)) (by (with_reducible repeat (first | refine blk_drewN ?_ _ | refine blk_drew ?_ | refine blk_alloc ?_ _)); exact BK146.out) hb); have n3_ := Aside0.mk (blk_below (g := gb154) (o := .cells #[.int .i64 x155000_17, .int .i64 x155001_17, u155002] 24 (0, 0)) (by (with_reducible repeat (first | refine blk_drewN ?_ _ | refine blk_drew ?_ | refine blk_alloc ?_ _)); exact BK154.out) hb); have n4_ := Aside0.mk (below_step (by repeat (first | (with_reducible first | exact HB.out | apply below_alloc | apply pw_below_drewN | apply below_drew1 | refine below_set ?_ GE146.out | refine below_set ?_ GE154.out) | exact HB.out)) hb); clear HO_147002; clear HO_155002; clear BK146; clear BK154; clear HB; have HO_147002 := n0_; have HO_155002 := n1_; have BK146 := n2_; have BK154 := n3_; have HB := n4_; clear n0_ n1_ n2_ n3_ n4_; (try clear hb); (try clear hb2); (try clear hk); (try clear hi); have hcz67_0 : w66.cell? ⟨gb146, 0, none⟩ = some (.int .i64 x147000_36) := (blk_cell BK146.out 0).trans rfl; have hcz67_1 : w66.cell? ⟨gb146, 1, none⟩ = some (.int .i64 x147001_36) := (blk_cell BK146.out 1).trans rfl; have hcz67_2 : w66.cell? ⟨gb146, 2, none⟩ = some (.slice Ao65 x147002_36.length co65) := (blk_cell BK146.out 2).trans rfl; have hfz67_0 := blk_frozen BK146.out 0; have hfz67_1 := blk_frozen BK146.out 1; have hfz67_2 := blk_frozen BK146.out 2) | (go_at_call 18; (with_reducible refine (people_In.calls kj36 x147000_36 x147001_36 _ _ x147002_36 a1 true _ ?side1 ?side2 A45.out).mono ?_); (case side1 => repeat (first | exact (Kd.V_reads' HO_147002.out).2.2 | (with_reducible refine Kd.C_alloc ?_ _) | (with_reducible refine Kd.C_drewN ?_ _) | (with_reducible refine Kd.C_drew ?_))); (case side2 => exact (Kd.V_reads' HO_147002.out).2.1); rintro e w68 ⟨rfl, hb⟩; have n0_ := Aside0.mk (Kd.V_below (by (with_reducible repeat (first | apply Kd.V_alloc | apply Kd.V_drewN | apply Kd.V_drew)); exact HO_147002.out) hb); have n1_ := Aside0.mk (Kd.V_below (by (with_reducible repeat (first | apply Kd.V_alloc | apply Kd.V_drewN | apply Kd.V_drew)); exact HO_155002.out) hb); have n2_ := Aside0.mk (blk_below (g := gb146) (o := .cells #[.int .i64 x147000_36, .int .i64 x147001_36, .slice Ao65 x147002_36.length co65] 24 (0, 0)) (by (with_reducible repeat (first | refine blk_drewN ?_ _ | refine blk_drew ?_ | refine blk_alloc ?_ _)); exact BK146.out) hb); have n3_ := Aside0.mk (blk_below (g := gb154) (o := .cells #[.int .i64 x155000_17, .int .i64 x155001_17, u155002] 24 (0, 0)) (by (with_reducible repeat (first | refine blk_drewN ?_ _ | refine blk_drew ?_ | refine blk_alloc ?_ _)); exact BK154.out) hb); have n4_ := Aside0.mk (below_step (by repeat (first | (with_reducible first | exact HB.out | apply below_alloc | apply pw_below_drewN | apply below_drew1 | refine below_set ?_ GE146.out | refine below_set ?_ GE154.out) | exact HB.out)) hb); clear HO_147002; clear HO_155002; clear BK146; clear BK154; clear HB; have HO_147002 := n0_; have HO_155002 := n1_; have BK146 := n2_; have BK154 := n3_; have HB := n4_; clear n0_ n1_ n2_ n3_ n4_; (try clear hb); (try clear hb2); (try clear hk); (try clear hi); have hcz69_0 : w68.cell? ⟨gb146, 0, none⟩ = some (.int .i64 x147000_36) := (blk_cell BK146.out 0).trans rfl; have hcz69_1 : w68.cell? ⟨gb146, 1, none⟩ = some (.int .i64 x147001_36) := (blk_cell BK146.out 1).trans rfl; have hcz69_2 : w68.cell? ⟨gb146, 2, none⟩ = some (.slice Ao65 x147002_36.length co65) := (blk_cell BK146.out 2).trans rfl; have hfz69_0 := blk_frozen BK146.out 0; have hfz69_1 := blk_frozen BK146.out 1; have hfz69_2 := blk_frozen BK146.out 2))
                              go_ret
                              exact ⟨by first | rfl | (simp [errW_none, errW_some] <;> rfl) | (simp [*, errW_none, errW_some] <;> rfl), by repeat (first | (with_reducible first | exact HB.out | apply below_alloc | apply pw_below_drewN | apply below_drew1 | refine below_set ?_ GE146.out | refine below_set ?_ GE154.out) | exact HB.out)⟩
                          · replace c46 := Bool.eq_false_iff.mpr c46
                            subst c46
                            have H1 : (some false) = some r := by rw [if_neg (show ¬ (false = true) by decide)] at H; exact H
                            clear H
                            have H := H1
                            clear H1
                            obtain rfl := Option.some.inj H
                            have hnb70 := NB146_154.out
                            have hnc70 := NB154_146.out
                            have hcz71_0 : wc.cell? ⟨gb146, 0, none⟩ = some (.int .i64 x147000_36) := (blk_cell BK146.out 0).trans rfl
                            have hcz71_1 : wc.cell? ⟨gb146, 1, none⟩ = some (.int .i64 x147001_36) := (blk_cell BK146.out 1).trans rfl
                            have hcz71_2 : wc.cell? ⟨gb146, 2, none⟩ = some (u147002) := (blk_cell BK146.out 2).trans rfl
                            have hfz71_0 := blk_frozen BK146.out 0
                            have hfz71_1 := blk_frozen BK146.out 1
                            have hfz71_2 := blk_frozen BK146.out 2
                            obtain ⟨Ao72, co72, eo72⟩ := Kd.V_slice HO_147002.out
                            subst eo72
                            go_wp2_with (first | ((with_reducible refine gate_callee (f := 16) rfl ?_); refine goesL_ (some 66) rfl rfl Try.func16 (by kernel_rfl) rfl #[.agg #[.int .i64 x147000_36, .int .i64 x147001_36, .slice Ao72 x147002_36.length co72]] rfl (by (try simp only [List.map_toArray, List.map_cons, List.map_nil]); first | done | rfl | (simp only [List.length_drop, List.length_take]; rfl)) ?_; (with_reducible refine (people_May.calls kj36 x147000_36 x147001_36 _ _ x147002_36 true _ ?side1 ?side2 A43.out).mono ?_); (case side1 => repeat (first | exact (Kd.V_reads' HO_147002.out).2.2 | (with_reducible refine Kd.C_alloc ?_ _) | (with_reducible refine Kd.C_drewN ?_ _) | (with_reducible refine Kd.C_drew ?_))); (case side2 => exact (Kd.V_reads' HO_147002.out).2.1); rintro e w73 ⟨rfl, hb⟩; refine ⟨_, rfl, ?_⟩; have n0_ := Aside0.mk (Kd.V_below (by (with_reducible repeat (first | apply Kd.V_alloc | apply Kd.V_drewN | apply Kd.V_drew)); exact HO_147002.out) hb); have n1_ := Aside0.mk (Kd.V_below (by (with_reducible repeat (first | apply Kd.V_alloc | apply Kd.V_drewN | apply Kd.V_drew)); exact HO_155002.out) hb); have n2_ := Aside0.mk (blk_below (g := gb146) (o := .cells #[.int .i64 x147000_36, .int .i64 x147001_36, .slice Ao72 x147002_36.length co72] 24 (0, 0)) (by (with_reducible repeat (first | refine blk_drewN ?_ _ | refine blk_drew ?_ | refine blk_alloc ?_ _)); exact BK146.out) hb); have n3_ := Aside0.mk (blk_below (g := gb154) (o := .cells #[.int .i64 x155000_17, .int .i64 x155001_17, u155002] 24 (0, 0)) (by (with_reducible repeat (first | refine blk_drewN ?_ _ | refine blk_drew ?_ | refine blk_alloc ?_ _)); exact BK154.out) hb); have n4_ := Aside0.mk (below_step (by repeat (first | (with_reducible first | exact HB.out | apply below_alloc | apply pw_below_drewN | apply below_drew1 | refine below_set ?_ GE146.out | refine below_set ?_ GE154.out) | exact HB.out)) hb); clear HO_147002; clear HO_155002; clear BK146; clear BK154; clear HB; have HO_147002 := n0_; have HO_155002 := n1_; have BK146 := n2_; have BK154 := n3_; have HB := n4_; clear n0_ n1_ n2_ n3_ n4_; (try clear hb); (try clear hb2); (try clear hk); (try clear hi); have hcz74_0 : w73.cell? ⟨gb146, 0, none⟩ = some (.int .i64 x147000_36) := (blk_cell BK146.out 0).trans rfl; have hcz74_1 : w73.cell? ⟨gb146, 1, none⟩ = some (.int .i64 x147001_36) := (blk_cell BK146.out 1).trans rfl; have hcz74_2 : w73.cell? ⟨gb146, 2, none⟩ = some (.slice Ao72 x147002_36.length co72) := (blk_cell BK146.out 2).trans rfl; have hfz74_0 := blk_frozen BK146.out 0; have hfz74_1 := blk_frozen BK146.out 1; have hfz74_2 := blk_frozen BK146.out 2) | (go_at_call 18; (with_reducible refine (people_In.calls kj36 x147000_36 x147001_36 _ _ x147002_36 a1 false _ ?side1 ?side2 A45.out).mono ?_); (case side1 => repeat (first | exact (Kd.V_reads' HO_147002.out).2.2 | (with_reducible refine Kd.C_alloc ?_ _) | (with_reducible refine Kd.C_drewN ?_ _) | (with_reducible refine Kd.C_drew ?_))); (case side2 => exact (Kd.V_reads' HO_147002.out).2.1); rintro e w75 ⟨rfl, hb⟩; have n0_ := Aside0.mk (Kd.V_below (by (with_reducible repeat (first | apply Kd.V_alloc | apply Kd.V_drewN | apply Kd.V_drew)); exact HO_147002.out) hb); have n1_ := Aside0.mk (Kd.V_below (by (with_reducible repeat (first | apply Kd.V_alloc | apply Kd.V_drewN | apply Kd.V_drew)); exact HO_155002.out) hb); have n2_ := Aside0.mk (blk_below (g := gb146) (o := .cells #[.int .i64 x147000_36, .int .i64 x147001_36, .slice Ao72 x147002_36.length co72] 24 (0, 0)) (by (with_reducible repeat (first | refine blk_drewN ?_ _ | refine blk_drew ?_ | refine blk_alloc ?_ _)); exact BK146.out) hb); have n3_ := Aside0.mk (blk_below (g := gb154) (o := .cells #[.int .i64 x155000_17, .int .i64 x155001_17, u155002] 24 (0, 0)) (by (with_reducible repeat (first | refine blk_drewN ?_ _ | refine blk_drew ?_ | refine blk_alloc ?_ _)); exact BK154.out) hb); have n4_ := Aside0.mk (below_step (by repeat (first | (with_reducible first | exact HB.out | apply below_alloc | apply pw_below_drewN | apply below_drew1 | refine below_set ?_ GE146.out | refine below_set ?_ GE154.out) | exact HB.out)) hb); clear HO_147002; clear HO_155002; clear BK146; clear BK154; clear HB; have HO_147002 := n0_; have HO_155002 := n1_; have BK146 := n2_; have BK154 := n3_; have HB := n4_; clear n0_ n1_ n2_ n3_ n4_; (try clear hb); (try clear hb2); (try clear hk); (try clear hi)))
                            go_ret
                            exact ⟨by first | rfl | (simp [errW_none, errW_some] <;> rfl) | (simp [*, errW_none, errW_some] <;> rfl), by repeat (first | (with_reducible first | exact HB.out | apply below_alloc | apply pw_below_drewN | apply below_drew1 | refine below_set ?_ GE146.out | refine below_set ?_ GE154.out) | exact HB.out)⟩
                        · replace c44 := Bool.eq_false_iff.mpr c44
                          subst c44
                          have H1 : (some false) = some r := by rw [if_neg (show ¬ (false = true) by decide)] at H; exact H
                          clear H
                          have H := H1
                          clear H1
                          obtain rfl := Option.some.inj H
                          have hnb76 := NB146_154.out
                          have hnc76 := NB154_146.out
                          have hcz77_0 : wc.cell? ⟨gb146, 0, none⟩ = some (.int .i64 x147000_36) := (blk_cell BK146.out 0).trans rfl
                          have hcz77_1 : wc.cell? ⟨gb146, 1, none⟩ = some (.int .i64 x147001_36) := (blk_cell BK146.out 1).trans rfl
                          have hcz77_2 : wc.cell? ⟨gb146, 2, none⟩ = some (u147002) := (blk_cell BK146.out 2).trans rfl
                          have hfz77_0 := blk_frozen BK146.out 0
                          have hfz77_1 := blk_frozen BK146.out 1
                          have hfz77_2 := blk_frozen BK146.out 2
                          obtain ⟨Ao78, co78, eo78⟩ := Kd.V_slice HO_147002.out
                          subst eo78
                          go_wp2_with (first | ((with_reducible refine gate_callee (f := 16) rfl ?_); refine goesL_ (some 66) rfl rfl Try.func16 (by kernel_rfl) rfl #[.agg #[.int .i64 x147000_36, .int .i64 x147001_36, .slice Ao78 x147002_36.length co78]] rfl (by (try simp only [List.map_toArray, List.map_cons, List.map_nil]); first | done | rfl | (simp only [List.length_drop, List.length_take]; rfl)) ?_; (with_reducible refine (people_May.calls kj36 x147000_36 x147001_36 _ _ x147002_36 false _ ?side1 ?side2 A43.out).mono ?_); (case side1 => repeat (first | exact (Kd.V_reads' HO_147002.out).2.2 | (with_reducible refine Kd.C_alloc ?_ _) | (with_reducible refine Kd.C_drewN ?_ _) | (with_reducible refine Kd.C_drew ?_))); (case side2 => exact (Kd.V_reads' HO_147002.out).2.1); rintro e w79 ⟨rfl, hb⟩; refine ⟨_, rfl, ?_⟩; have n0_ := Aside0.mk (Kd.V_below (by (with_reducible repeat (first | apply Kd.V_alloc | apply Kd.V_drewN | apply Kd.V_drew)); exact HO_147002.out) hb); have n1_ := Aside0.mk (Kd.V_below (by (with_reducible repeat (first | apply Kd.V_alloc | apply Kd.V_drewN | apply Kd.V_drew)); exact HO_155002.out) hb); have n2_ := Aside0.mk (blk_below (g := gb146) (o := .cells #[.int .i64 x147000_36, .int .i64 x147001_36, .slice Ao78 x147002_36.length co78] 24 (0, 0)) (by (with_reducible repeat (first | refine blk_drewN ?_ _ | refine blk_drew ?_ | refine blk_alloc ?_ _)); exact BK146.out) hb); have n3_ := Aside0.mk (blk_below (g := gb154) (o := .cells #[.int .i64 x155000_17, .int .i64 x155001_17, u155002] 24 (0, 0)) (by (with_reducible repeat (first | refine blk_drewN ?_ _ | refine blk_drew ?_ | refine blk_alloc ?_ _)); exact BK154.out) hb); have n4_ := Aside0.mk (below_step (by repeat (first | (with_reducible first | exact HB.out | apply below_alloc | apply pw_below_drewN | apply below_drew1 | refine below_set ?_ GE146.out | refine below_set ?_ GE154.out) | exact HB.out)) hb); clear HO_147002; clear HO_155002; clear BK146; clear BK154; clear HB; have HO_147002 := n0_; have HO_155002 := n1_; have BK146 := n2_; have BK154 := n3_; have HB := n4_; clear n0_ n1_ n2_ n3_ n4_; (try clear hb); (try clear hb2); (try clear hk); (try clear hi)))
                          go_ret
                          exact ⟨by first | rfl | (simp [errW_none, errW_some] <;> rfl) | (simp [*, errW_none, errW_some] <;> rfl), by repeat (first | (with_reducible first | exact HB.out | apply below_alloc | apply pw_below_drewN | apply below_drew1 | refine below_set ?_ GE146.out | refine below_set ?_ GE154.out) | exact HB.out)⟩
              · rw [if_neg c16] at H
                exact absurd H (by simp)
            · rw [if_neg c15] at H
              have c15b0 : decide (x10_2 < (l2.length : Int)) = false := decide_eq_false c15
              clear c15
              obtain rfl := Option.some.inj H
              go_wp2
              go_ret
              exact ⟨by first | rfl | (simp [errW_none, errW_some] <;> rfl) | (simp [*, errW_none, errW_some] <;> rfl), by repeat (first | (with_reducible first | exact HB.out | apply below_alloc | apply pw_below_drewN | apply below_drew1 | refine below_set ?_ GE146.out) | exact HB.out)⟩

/-- THE ONE PURE STATEMENT of colloquylaw15_PeopleOwner: yours. -/
def colloquylaw15_PeopleOwner.Pure : Prop := ∀ (a0 : Int) (a1 : Int) (l2 : List Int), (Lit.int .i64 a0).wf = true → (Lit.int .i64 a1).wf = true → l2.length ≤ maxLen → l2.length * 8 ≤ 140737488351232 → (∀ x ∈ l2, (Lit.int .i64 x).wf = true) → ∃ k, colloquylaw15_PeopleOwner.f k a0 a1 l2 = some true
theorem colloquylaw15_PeopleOwner.walk (P : colloquylaw15_PeopleOwner.Pure) (a0 : Int) (a1 : Int) (a2 : Option Addr) (len2 cap2 : Nat) (z2 : List Int) (w : World) (w0 : (Lit.int .i64 a0).wf = true) (w1 : (Lit.int .i64 a1).wf = true) (w2 : (a2 = none ∧ len2 = 0 ∧ cap2 = 0 ∧ z2 = []) ∨ ∃ x, a2 = some x ∧ len2 ≤ cap2 ∧ cap2 ≤ maxLen ∧ z2.length = cap2 ∧ (∀ i, i < z2.length → w.cell? (x.add i) = some (.int .i64 (z2.getD i 0))) ∧ ∀ n ∈ z2, (Lit.int .i64 n).wf = true) (y2 : len2 * 8 ≤ 140737488351232) :
    Calls Try.prog 4 #[.int .i64 a0, .int .i64 a1, .slice a2 len2 cap2] w fun e w' => e = .returned (.bool true) ∧ Below w.heap.size w w' := by
  obtain ⟨l2, rfl, hr2, hm2, hw2, hc2⟩ := ReadsInt.ofRowC w2
  obtain ⟨k, h⟩ := P a0 a1 l2 w0 w1 hm2 y2 hw2
  refine (colloquylaw15_PeopleOwner.calls k a0 a1 _ _ l2 true w (Kd.C_of_reads (d := (0 : Int)) (h1 := fun _ => rfl) hr2) hc2 h).mono ?_
  rintro e w' ⟨rfl, hd⟩
  exact ⟨rfl, hd⟩

end Go.Proofs.Ytffeomfcjmmgoaa.PPeopleOwner
